/-
  Texts made small by a program (see NOTES). Conditions: those that each theorem names.
-/
import Derived.Test.YtkgenianmdfmdaaGreatMachineHonestMb
import Derived.KernelRfl
import Derived.Laws.CopyRow
import Derived.Laws.Externs
import Derived.Lib.Overlaps
import Derived.Lib.AppendZerosOnto
import Derived.Laws.NewBlocks
import Derived.Test.YtkgenianmdfmdaaGreatProg
import Derived.Shelf.Spec.SlicesInsert
import Derived.Shelf.SlSortCmp.NoneTotal
set_option linter.unusedVariables false
set_option linter.unusedSimpArgs false
set_option linter.unusedSectionVars false
set_option maxHeartbeats 2000000
noncomputable section
namespace Go.TQ
open Go.RowKit
def n4{σ ρ:Type}(step:σ->Option (σ⊕ρ)):Nat->σ->Option ρ
 |0,_=>none
 |n+1,s=>match step s with
  |none=>none
  |some (.inr r)=>some r
  |some (.inl s')=>n4 step n s'
theorem CP{σ ρ:Type}{step:σ->Option (σ⊕ρ)}{r:ρ}:∀{n m:Nat} {s:σ},n<=m->n4 step n s=some r->n4 step m s=some r
 |0,_,_,_,h=>by cases h
 |n+1,0,_,hnm,_=>by omega
 |n+1,m+1,s,hnm,h=>by
  simp only[n4]at h ⊢;split at h
  ·cases h
  ·exact h
  ·exact CP (by omega) h
theorem Vu{σ ρ:Type}{step:σ->Option (σ⊕ρ)}{r r':ρ}{n m:Nat}{s:σ}(h:n4 step n s=some r)(h':n4 step m s=some r'):r=r':=by
 have h1:=CP (Nat.le_max_left n m) h;have h2:=CP (Nat.le_max_right n m) h';rw[h1]at h2;injection h2
open Classical in
 def aI{σ ρ:Type}(step:σ->Option (σ⊕ρ))(s:σ):Option ρ:=
 if h:∃r,∃n,n4 step n s=some r then some (Classical.choose h)else none
theorem yc{σ ρ:Type}{step:σ->Option (σ⊕ρ)}{s:σ}{r:ρ}(h:aI step s=some r):∃n,n4 step n s=some r:=by
 unfold aI at h;split at h
 ·rename_i hx;injection h with h
  obtain⟨n,hn⟩:=Classical.choose_spec hx;exact⟨n,by rw[hn,h]⟩
 ·cases h
theorem HW{σ ρ:Type}{step:σ->Option (σ⊕ρ)}{s:σ}{r:ρ}{n:Nat}(h:n4 step n s=some r):aI step s=some r:=by
 unfold aI;have hx:∃r,∃n,n4 step n s=some r:=⟨r,n,h⟩;rw[dif_pos hx];obtain⟨m,hm⟩:=Classical.choose_spec hx;rw[Vu hm h]
theorem iu{σ ρ:Type}(step:σ->Option (σ⊕ρ))(s:σ):aI step s=match step s with|none=>none|some (.inr r)=>some r|some (.inl s')=>aI step s':=by
 cases hs:step s with
 |none=>
  cases h:aI step s with
  |none=>rfl
  |some r=>
   obtain⟨n,hn⟩:=yc h
   cases n with
   |zero=>cases hn
   |succ n=>simp[n4,hs]at hn
 |some x=>
  cases x with
  |inr r=>exact HW (n:=1) (by simp[n4,hs])
  |inl s'=>
   simp only
   cases h':aI step s' with
   |some r=>
    obtain⟨n,hn⟩:=yc h';exact HW (n:=n+1) (by simp only[n4,hs];exact hn)
   |none=>
    cases h:aI step s with
    |none=>rfl
    |some r=>
     obtain⟨n,hn⟩:=yc h
     cases n with
     |zero=>cases hn
     |succ n=>simp only[n4,hs]at hn;rw[HW hn]at h';cases h'
open Classical in
 def both{ρ:Type}(x y:Option ρ):Option ρ:=if x=y then x else none
theorem VY{ρ:Type}{x y:Option ρ}{r:ρ}(h:both x y=some r):x=some r/\y=some r:=by
 unfold both at h;split at h
 ·rename_i e;exact⟨h,e▸h⟩
 ·cases h
@[simp] theorem acL {ρ:Type} (x:Option ρ):both x x=x:=Qr rfl
def bm{σ ρ:Type}(j:σ->Option ρ)(f:(σ->Option ρ)->Option ρ):Option ρ:=f j
def kX{α σ ρ:Type}(step:Nat->α->σ->Option (σ⊕ρ))(fin:σ->Option ρ):List α->σ->Option ρ
 |[],s=>fin s
 |a::l,s=>match step l.length a s with
  |none=>none
  |some (.inr r)=>some r
  |some (.inl s')=>kX step fin l s'
section
variable {U : TU}
inductive SA (U:TU) where
 |skip
 |su (rs:RS U)
 |qq (un:List (Nat×Nat)) (rs:RS U)
 |seq (x y:SA U)
 |join (J:JS U) (x y:SA U)
 |cond (c:bb) (x y:SA U)
 |block (id:Nat) (x:SA U)
 |loop (J:JS U) (x:SA U)
 |UT (n:Nat) (x:SA U)
 |back (J:JS U) (f k:Nat) (nE:Option Nat) (T:U.Ty) (tg p0 p1:Nat) (x y:SA U)
 |exit (id:Nat)
 |ret
 |ps (p:Ps U) (x:SA U)
 |Di (p:Ps U) (x:SA U)
def SA.erase:SA U->SC
 | .skip=> .skip
 | .su rs=> .su rs.flat
 | .qq un rs=> .qq un rs.flat
 | .seq x y=> .seq x.erase y.erase
 | .join _ x y=> .seq x.erase y.erase
 | .cond c x y=> .cond c x.erase y.erase
 | .block id x=> .block id x.erase
 | .loop _ x=> .loop x.erase
 | .UT _ x=> .loop x.erase
 | .back _ _ _ _ _ tg p0 p1 x y=> .Bl (.tmp tg) [p0,p1] x.erase y.erase
 | .exit id=> .exit id
 | .ret=> .ret
 | .ps _ x=>x.erase
 | .Di _ x=>x.erase
def SA.dn:SA U->Bool
 | .su rs=>rs.dn
 | .qq _ rs=>rs.dn
 | .seq x y=>x.dn&&y.dn
 | .join _ x y=>x.dn&&y.dn
 | .cond c x y=>c.dn&&x.dn&&y.dn
 | .block _ x=>x.dn
 | .loop _ x=>x.dn
 | .UT _ x=>x.dn
 | .back _ _ _ _ _ _ _ _ x y=>x.dn&&y.dn
 | .ps _ x=>x.dn
 | .Di _ x=>x.dn
 |_=>true
variable (K : TK U)
def zU(Γ:List (dm U)){ρ:Type}(W:WS)(base:Nat):RS U->(i:Nat)->(S:aQ U)->(k:aQ U->List sO->Option ρ)->Option ρ
 | .nil,_,S,k=>k S []
 | .op o r,i,S,k=>Um K Γ W (base+i) S o fun x wr=>zU Γ W base r (i+1) (S.cu o.d x wr) fun S' fs=>k S' (⟨o.d,o.bO,BI (base+i) S.st o,wr.map (·.1)⟩::fs)
 | .xB t r,i,S,k=>(match S.env t with
  | .bool b=>bif b then zU Γ W base r i (S.cu (some t) (.bool true) none) k else zU Γ W base r i (S.cu (some t) (.bool false) none) k
  | .undef=>zU Γ W base r i S k
  |_=>none)
 |_,_,_,_=>none
def ED(F:List Nat)(ds:List Nat):Bool:=ds.all fun t=> !gD t F
def aQ.more(S:aQ U)(n:Nat):aQ U:={env:=S.env,H:=S.H,N:=S.N+n}
def aQ.fB(S:aQ U)(D:List Nat):aQ U:={env:=fun t=>(match gD t D with|true=> .any|false=>S.env t),H:=S.H,N:=S.N}
def T0(U:TU)(T:U.Ty):Option Nat->Bool
 |none=> !U.agg T
 |some n=>U.agg T&&Nat.beq n (U.size T)
def Oj{ρ:Type}(f:(aQ U->Option ρ)->aQ U->Option ρ):Nat->aQ U->Option ρ
 |0,_=>none
 |n+1,S=>f (Oj f n) S
 def my(Γ:List (dm U)):SA U->{ρ:Type}->(F:List Nat)->(W:WS)->(k:Exit->aQ U->Option ρ)->(S:aQ U)->Option ρ
 | .skip,_,_,_,k,S=>k .normal S
 | .su rs,_,F,W,k,S=>(match ED F rs.iY with
  |true=>jB K Γ rs W S.N (S.more rs.len) fun S'=>k .normal S'
  |false=>none)
 | .qq un rs,_,F,W,k,S=>(match ED F rs.iY with
  |true=>zU K Γ W S.N rs 0 (S.more rs.len) fun S' fs=>(match un.all (fun p=>match fs[p.1]?,fs[p.2]? with|some a,some b=>za a b|_,_=>false)with
   |true=>k .normal S'
   |false=>none)
  |false=>none)
 | .seq x y,_,F,W,k,S=>my Γ x F W (fun e S'=>match e with
  | .normal=>my Γ y F W k S'
  |e=>k e S') S
 | .join J x y,_,F,W,k,S=>(match rl S J F W with
  |true=>bm (fun v=>my Γ y F W k (unpack K S J v)) fun j=>my Γ x J.er (some (S.N,eM J.items)) (fun e S'=>match e with
   | .normal=>(match pack K S' J.items with|some v=>j v|none=>none)
   |e=>k e S') S
  |false=>none)
 | .cond c x y,_,F,W,k,S=>(match c.cv S with
  | .bool b=>bif b then my Γ x F W k S else my Γ y F W k S
  | .fL=>both (my Γ x F W k S) (my Γ y F W k S)
  |_=>none)
 | .block id x,_,F,W,k,S=>my Γ x F W (fun e S'=>match e with
  | .exit i=>(match Nat.beq i id with|true=>k .normal S'|false=>k (.exit i) S')
  |e=>k e S') S
 | .loop J x,_,F,W,k,S=>(match rl S J F W with
  |true=>(match pack K S J.items with
   |some v0=>aI (fun v=>my Γ x J.er (some (S.N,eM J.items)) (fun e S'=>match e with
    | .normal=>(match pack K S' J.items with|some v=>some (Sum.inl v)|none=>none)
    |e=>(k e S').map Sum.inr) (unpack K S J v)) v0
   |none=>none)
  |false=>none)
 | .UT n x,_,F,W,k,S=>Oj (fun ih S=>my Γ x F W (fun e S'=>match e with| .normal=>ih S'|e=>k e S') S) n S
 | .back J f kk nE T tg p0 p1 x y,_,F,W,k,S=>
  let D:=SC.qF (.Bl (.tmp tg) [p0,p1] x.erase y.erase)
  (match Kb f kk nE Γ&&Nat.beq (U.size T) kk&&T0 U T nE&&gD tg J.er&&ED J.er D&&ED F D&&rl (S.fB D) J F W with
  |true=>(match S.env tg with
   | .bA f' [.ref [.sl T' xs']]=>(match Nat.beq f' f with
    |true=>(match wR T' T xs' with
     |some xs=>(match pack K (S.fB D) J.items with
      |some v0=>kX (fun m a v=>my Γ x J.er (some (S.N,eM J.items)) (fun e S1=>match e with
       | .normal=>my Γ y J.er (some (S.N,eM J.items)) (fun e S'=>match e with
        | .normal=>(match pack K (S'.fB D) J.items with|some v=>some (Sum.inl v)|none=>none)
        | .ret=>(k .ret (S'.fB D)).map Sum.inr
        | .exit i=>(k (.exit i) (S'.fB D)).map Sum.inr
        |_=>none) S1
       |_=>none) {(unpack K (S.fB D) J v)with env:=gi (gi (unpack K (S.fB D) J v).env p0 (.int .i64 m)) p1 (tM K T a)}) (fun v=>k .normal (unpack K (S.fB D) J v)) xs.reverse v0
      |none=>none)
     |none=>none)
    |false=>none)
   |_=>none)
  |false=>none)
 | .exit id,_,_,_,k,S=>k (.exit id) S
 | .ret,_,_,_,k,S=>k .ret S
 | .ps p x,_,F,W,k,S=>(match(p.Cx S).all (okW W)&&ED F p.tmps with
  |true=>(match p.run S with|some S'=>my Γ x F W k S'|none=>none)
  |false=>none)
 | .Di p x,_,F,W,k,S=>my Γ x F W (fun e S'=>match e with
  | .normal=>(match(p.Cx S').all (okW W)&&ED F p.tmps with
   |true=>(match p.run S' with|some S1=>k .normal S1|none=>none)
   |false=>none)
  |e=>k e S') S
structure ig (F:List Nat) (W:WS) (S S':aQ U):Prop where
 env:∀t∈F,S'.env t=S.env t
 H:∀id,okW W id=false->S'.H id=S.H id
 N:S.N<=S'.N
theorem ig.refl(F:List Nat)(W:WS)(S:aQ U):ig F W S S:=⟨fun _ _=>rfl,fun _ _=>rfl,QI _⟩
theorem ig.trans{F:List Nat}{W:WS}{S S' S'':aQ U}(h:ig F W S S')(h':ig F W S' S''):ig F W S S'':=
 ⟨fun t ht=>(h'.env t ht).trans (h.env t ht),fun id hid=>(h'.H id hid).trans (h.H id hid),QK h.N h'.N⟩
theorem xL.toC{D F:List Nat}{W:WS}{S S':aQ U}(h:xL D W S S')(ho:ED F D=true):ig F W S S':=
 ⟨fun t ht=>h.env t (fun hd=>by have h1:=QH.1 ho t hd;rw[dY.2 ht]at h1;cases h1),h.H,h.N⟩
theorem ig.more{F:List Nat}{W:WS}{S S':aQ U}{n:Nat}(h:ig F W (S.more n) S'):ig F W S S':=
 ⟨h.env,h.H,QK (Nat.le_add_right _ _) h.N⟩
variable {K}
variable {P : Program} {nt : Nat}
theorem Tg{sc:SC}{Q:Exit->St->Prop}{S S':St}(hw:∀(E:En) (a:Act) (w:World) (L:Nat->Value),Rel E S a w L->∃L',Rel E S' a w L')(h:VS P nt sc Q S'):VS P nt sc Q S:=
 fun c hs hc E hE hk a w L hr=>by
  obtain⟨L',h'⟩:=hw E a w L hr;exact h c hs hc E hE hk a w L' h'
theorem Z1{sc:SC}{Q Q':Exit->St->Prop}{S:St}(h:VS P nt sc Q' S)(hq:∀e A,Q' e A->∃A',Q e A'/\∀(E:En) (a:Act) (w:World) (L:Nat->Value),Rel E A a w L->∃L',Rel E A' a w L'):VS P nt sc Q S:=
 fun c hs hc E hE hk a w L hr=>wpIn_mono (h c hs hc E hE hk a w L hr) fun _ _ _ ⟨S',L',h1,h2⟩=>by
  obtain⟨A',h3,h4⟩:=hq _ _ h2;obtain⟨L'',h5⟩:=h4 _ _ _ _ h1;exact⟨A',L'',h5,h3⟩
theorem Z0{Γ:List (dm U)}(hΓ:rH P Γ){rs:RS U}{W:WS}{ρ:Type}{k:aQ U->Option ρ}{r:ρ}{S:aQ U}(hok:rs.dn=true)(hr:jB K Γ rs W S.N (S.more rs.len) k=some r){Q:Exit->St->Prop}
  (h:∀S',xL rs.iY W (S.more rs.len) S'->k S'=some r->Q .normal S'.st):VS P nt (.su rs.flat) Q S.st:=by
 intro c hs hc
 cases c with
 |region id ops d=>
  cases d with
  |true=>simp only[aE]at hc;(try split at hc)<;>(try split at hc)<;>(try split at hc)<;>cases hc
  |false=>
   simp only[aE]at hc;split at hc
   ·rename_i gs' hgs;split at hc
    ·rename_i hd;injection hc with hc
     injection hc with hc
     subst hc;intro E hE hk a w L hrel;refine wpIn_region_list ?_;have h0:Rel E (S.more rs.len).st a w L:=hrel.room rs.len;have:=nm (K:=K) (E:=E) hΓ (ops:=ops) (Q:=fun e a' w'=>∃S' L',Rel E S' a' w' L'/\Q e S') rs W S.N (S.more rs.len) k r ops.toList [] a w L hok hgs h0 (QI _) (Q7 hE hk (Km hd)) hr (fun S' a' w' L' hf h' hk'=>⟨S'.st,L',h',h S' hf hk'⟩)
     simpa using this
    ·cases hc
   ·cases hc
 |seq x y=>simp only[aE]at hc;split at hc<;>cases hc
 |cond c x y=>simp only[aE]at hc;split at hc<;>cases hc
 |block id c=>simp only[aE,Qb]at hc;obtain⟨_,_,hc⟩:=hc;cases hc
 |loop c=>simp only[aE,Qb]at hc;obtain⟨_,_,hc⟩:=hc;cases hc
 |rangeFunc g ps x y=>simp only[aE]at hc;split at hc<;>(try split at hc)<;>cases hc
 |_=>simp only[aE]at hc<;>cases hc
theorem Jd{Γs Γs':Nat->mz}{base:Nat}:∀(l:List (Nat×SG)) (S:St),(∀p∈l,Γs p.1=Γs' p.1)->ml Γs base l S=ml Γs' base l S
 |[],_,_=>rfl
 |(i,g)::l,S,h=>by
  simp only[ml,h (i,g) (by simp)]
  split
  ·rfl
  ·rename_i p hp;rw[Jd l _ fun q hq=>h q (Qy _ hq)]
theorem s9{Γ:List (dm U)}(hΓ:rH P Γ){W:WS}{base:Nat}{ρ:Type}{r:ρ}:∀(rs:RS U) (i:Nat) (S:aQ U) (k:aQ U->List sO->Option ρ),rs.dn=true->zU K Γ W base rs i S k=some r->
  ∃(Γs:Nat->mz) (S':aQ U) (fs:List sO),(∀j,jN P (Γs j))/\ml Γs base ((rs.flat.zipIdx i).map fun p=>(p.2,p.1)) S.st=some (S'.st,fs)/\xL rs.iY W S S'/\k S' fs=some r
 | .nil,i,S,k,_,h=>⟨fun _ _=>none,S,[],fun _=>TY,rfl,xL.refl _ _ _,h⟩
 | .op o rs,i,S,k,hok,h=>by
  simp only[RS.dn,Qm]at hok;simp only[zU]at h;obtain⟨Γ',x,wr,h1,h2,h3,h4⟩:=Kl hΓ hok.1 h;obtain⟨Γs,S',fs,h5,h6,h7,h8⟩:=s9 hΓ rs (i+1) _ _ hok.2 h4;refine⟨fun j=>if j=i then Γ' else Γs j,S',_,fun j=> ?_,?_,?_,h8⟩
  ·simp only;split
   ·exact h1
   ·exact h5 j
  ·simp only[RS.flat,List.zipIdx_cons,QD,ml,Qt,h2]
   have:ml (fun j=>if j=i then Γ' else Γs j) base ((rs.flat.zipIdx (i+1)).map fun p=>(p.2,p.1)) (S.st.cu o.d x.pv (wr.map jd))=some (S'.st,fs):=by
    rw[<-DO,<-h6];refine Jd _ _ fun p hp=> ?_
    obtain⟨q,hq,rfl⟩:=QP.1 hp;have:=List.mem_zipIdx hq;simp only;rw[Qs (by omega)]
   rw[this];simp only[AP]
   cases wr with
   |none=>rfl
   |some p=>rfl
  ·refine(Tc S W o.d x wr h3).trans h7 fun t ht=> ?_
   simp only[RS.iY]at ht
   cases hdd:o.d with
   |none=>rw[hdd]at ht;exact⟨by simp,ht⟩
   |some d=>rw[hdd]at ht;simp only[QA,not_or]at ht;exact⟨by simpa using fun e=>ht.1 e,ht.2⟩
 | .xB t rs,i,S,k,hok,h=>by
  simp only[zU]at h;split at h
  ·rename_i b hb
   cases b with
   |true=>rw[Qk,zl hb]at h;exact s9 hΓ rs i S k hok h
   |false=>rw[Ql,zl hb]at h;exact s9 hΓ rs i S k hok h
  ·exact s9 hΓ rs i S k hok h
  ·cases h
 | .ps _ _,_,_,_,_,h=>by cases h
 | .ite _ _ _ _ _ _ _ _,_,_,_,_,h=>by cases h
theorem ZY{c:Code}{Q:Exit->St->Prop}{S:St}(I:Nat->St->Prop)(m0:Nat){S0:St}(hw0:∀(E:En) (a:Act) (w:World) (L:Nat->Value),Rel E S a w L->∃L',Rel E S0 a w L')(h0:I m0 S0)
  (hr:∀m S,I m S->V P nt c (fun e S'=>match e with| .normal=>∃m',m'<m/\∃S'',(∀(E:En) (a:Act) (w:World) (L:Nat->Value),Rel E S' a w L->∃L',Rel E S'' a w L')/\I m' S''|e=>Q e S') S):V P nt (.loop c) Q S:=fun E hE hk a w L hrel=>by
 refine wpIn_loop_ghost (fun m a w=>∃S L,I m S/\Rel E S a w L) m0 ?_ ?_
 ·obtain⟨L',h'⟩:=hw0 E a w L hrel;exact⟨S0,L',h0,h'⟩
 rintro m a w ⟨S1,L1,hI,h1⟩;refine wpIn_mono (hr m S1 hI E hE hk a w L1 h1) ?_;rintro e a' w' ⟨S',L',h2,h3⟩
 cases e with
 |normal=>
  obtain⟨m',hlt,S'',hw,hI'⟩:=h3;obtain⟨L'',h4⟩:=hw E a' w' L' h2;exact⟨m',hlt,S'',L'',hI',h4⟩
 |exit i=>exact⟨S',L',h2,h3⟩
 |goto l=>exact⟨S',L',h2,h3⟩
 |ret=>exact⟨S',L',h2,h3⟩
 |panic c=>exact⟨S',L',h2,h3⟩
 |outgrown=>exact⟨S',L',h2,h3⟩
theorem Rn{x:SC}{Q:Exit->St->Prop}{S:St}(I:Nat->St->Prop)(m0:Nat){S0:St}(hw0:∀(E:En) (a:Act) (w:World) (L:Nat->Value),Rel E S a w L->∃L',Rel E S0 a w L')(h0:I m0 S0)
  (hr:∀m S,I m S->VS P nt x (fun e S'=>match e with| .normal=>∃m',m'<m/\∃S'',(∀(E:En) (a:Act) (w:World) (L:Nat->Value),Rel E S' a w L->∃L',Rel E S'' a w L')/\I m' S''|e=>Q e S') S):VS P nt (.loop x) Q S:=by
 intro c hs hc
 cases c with
 |loop p=>
  simp only[aE,Qb]at hc;obtain⟨x',hx,hc⟩:=hc;injection hc with h1
  subst h1;exact ZY I m0 hw0 h0 (fun m S hI=>hr m S hI p hs hx)
 |region id ops d=>cases d<;>simp only[aE]at hc<;>(try split at hc)<;>(try split at hc)<;>(try split at hc)<;>cases hc
 |seq x y=>simp only[aE]at hc;split at hc<;>cases hc
 |cond c x y=>simp only[aE]at hc;split at hc<;>cases hc
 |block id c=>simp only[aE,Qb]at hc;obtain⟨_,_,hc⟩:=hc;cases hc
 |rangeFunc g ps x y=>simp only[aE]at hc;split at hc<;>(try split at hc)<;>cases hc
 |_=>simp only[aE]at hc<;>cases hc
theorem HV{S:aQ U}{J:JS U}{F:List Nat}{W:WS}(hchk:rl S J F W=true)(v:pz J.items):ig F W S (unpack K S J v):=by
 simp only[rl,Qm,QH]at hchk;obtain⟨⟨⟨⟨⟨⟨hnd,hids⟩,hokv⟩,hkeep⟩,hobj⟩,hF⟩,hW⟩:=hchk;refine⟨fun t ht=> ?_,fun id hid=> ?_,?_⟩
 ·have hk:=dY.1 (hF t ht);have hns:gD t (slotsOf J.items)=false:=by simpa using(hkeep t hk).2
  rcases wX (K:=K) (S.base J.er) J.items v t with⟨⟨i,d⟩,hmem,h1,h2⟩|⟨_,h2⟩
  ·exact absurd (z6 (jI hmem) h1) (nR hns)
  ·rw[show(unpack K S J v).env t=_ from h2,C6,Qr hk]
 ·have hlt:id<S.N:=by
   cases W with
   |none=>cases hW
   |some q=>
    obtain⟨n,l⟩:=q;simp only at hW;simp only[okW,Bool.or_eq_false_iff]at hid;have h1:=QG hW;have h2:¬n<=id:=fun hle=>by rw[Nat.ble_eq_true_of_le hle]at hid;cases hid.1
    omega
  rcases Bq (K:=K) (S.base J.er) J.items v id hnd with⟨⟨i,d⟩,hmem,h1,h2⟩|⟨_,h2⟩
  ·have:=(hids id (rV (jI hmem) h1)).2;rw[hid]at this;cases this
  ·rw[show(unpack K S J v).H id=_ from h2,Kx,Qr hlt]
 ·rw[unpack,Bp,Kw];exact QI _
theorem EG{S S1:aQ U}{J:JS U}{F:List Nat}{W:WS}(hchk:rl S J F W=true){v:pz J.items}(hp:pack K S1 J.items=some v)(hf:ig J.er (some (S.N,eM J.items)) S S1):
  ∀(E:En) (a:Act) (w:World) (L:Nat->Value),Rel E S1.st a w L->∃L',Rel E (unpack K S J v).st a w L':=by
 intro E a w L h;refine⟨L,Rel.meet hchk hp hf.env (fun id hid hni=>hf.H id ?_) hf.N h⟩
 simp only[okW,Bool.or_eq_false_iff];refine⟨?_,?_⟩
 ·cases hb:Nat.ble S.N id with
  |false=>rfl
  |true=>have:=QG hb;omega
 ·cases hb:gD id (eM J.items)with
  |false=>rfl
  |true=>exact absurd (dY.1 hb) hni
theorem B8(S:aQ U)(D:List Nat):(S.fB D).st=S.st.se D:=by
 unfold aQ.fB aQ.st St.se;congr 1
 funext t
 simp only
 by_cases h:t∈D
 ·rw[Qr h,dY.2 h];rfl
 ·rw[Qs h]
  cases hb:gD t D with
  |true=>exact absurd (dY.1 hb) h
  |false=>rfl
theorem CW{F D:List Nat}(h:ED F D=true)(W:WS)(S:aQ U):ig F W S (S.fB D):=
 ⟨fun t ht=>by
  have hn:gD t D=false:=by
   cases hb:gD t D with
   |false=>rfl
   |true=>
    have:=QH.1 h t (dY.1 hb);rw[dY.2 ht]at this;cases this
  simp only[aQ.fB,hn],fun _ _=>rfl,QI _⟩
theorem Pc{S:aQ U}{J:JS U}{F:List Nat}{W:WS}(hchk:rl S J F W=true)(v:pz J.items){S':aQ U}(hf:ig J.er (some (S.N,eM J.items)) (unpack K S J v) S'):ig F W S S':=by
 have hm:=HV (K:=K) hchk v;refine hm.trans ?_;simp only[rl,Qm,QH]at hchk;obtain⟨⟨⟨⟨⟨⟨hnd,hids⟩,hokv⟩,hkeep⟩,hobj⟩,hF⟩,hW⟩:=hchk;refine⟨fun t ht=>hf.env t (dY.1 (hF t ht)),fun id hid=>hf.H id ?_,hf.N⟩
 simp only[okW,Bool.or_eq_false_iff];refine⟨?_,?_⟩
 ·cases W with
  |none=>cases hW
  |some q=>
   obtain⟨n,l⟩:=q;simp only at hW;simp only[okW,Bool.or_eq_false_iff]at hid;have h1:=QG hW
   cases hb:Nat.ble S.N id with
   |false=>rfl
   |true=>have:=QG hb;rw[Nat.ble_eq_true_of_le (QK h1 this)]at hid;cases hid.1
 ·cases hb:gD id (eM J.items)with
  |false=>rfl
  |true=>have:=(hids id (dY.1 hb)).2;rw[hid]at this;cases this
theorem MN{S:aQ U}{J:JS U}{F:List Nat}{W:WS}(hchk:rl S J F W=true)(v:pz J.items){t:Nat}(ht:t∈J.er):(unpack K S J v).env t=S.env t:=by
 simp only[rl,Qm,QH]at hchk;obtain⟨⟨⟨⟨⟨⟨hnd,hids⟩,hokv⟩,hkeep⟩,hobj⟩,hF⟩,hW⟩:=hchk;have hns:gD t (slotsOf J.items)=false:=by simpa using(hkeep t ht).2
 rcases wX (K:=K) (S.base J.er) J.items v t with⟨⟨i,d⟩,hmem,h1,h2⟩|⟨_,h2⟩
 ·exact absurd (z6 (jI hmem) h1) (nR hns)
 ·rw[show(unpack K S J v).env t=_ from h2,C6,Qr ht]
theorem Vo{S:aQ U}{J:JS U}{F:List Nat}{W:WS}(hchk:rl S J F W=true)(v:pz J.items){S':aQ U}(hf:ig J.er (some (S.N,eM J.items)) (unpack K S J v) S'){v':pz J.items}(hv':pack K S' J.items=some v'):
  ∀(E:En) (a:Act) (w:World) (L:Nat->Value),Rel E S'.st a w L->∃L',Rel E (unpack K S J v').st a w L':=by
 intro E a w L hrel;have hkp:=fun{t} ht=>MN (K:=K) hchk v (t:=t) ht
 have hc:=hchk;simp only[rl,Qm,QH]at hc;obtain⟨⟨⟨⟨⟨⟨hnd,hids⟩,hokv⟩,hkeep⟩,hobj⟩,hF⟩,hW⟩:=hc;refine⟨L,Rel.meet hchk hv' (fun t ht=>(hf.env t ht).trans (hkp ht)) (fun id hid hni=>(hf.H id ?_).trans ?_) (by have:=hf.N;rw[unpack,Bp,Kw]at this;exact this) hrel⟩
 ·simp only[okW,Bool.or_eq_false_iff];refine⟨?_,?_⟩
  ·cases hb:Nat.ble S.N id with
   |false=>rfl
   |true=>have:=QG hb;omega
  ·cases hb:gD id (eM J.items)with
   |false=>rfl
   |true=>exact absurd (dY.1 hb) hni
 ·rcases Bq (K:=K) (S.base J.er) J.items v id hnd with⟨⟨i,d⟩,hmem,h1,h2⟩|⟨_,h2⟩
  ·exact absurd (rV (jI hmem) h1) hni
  ·rw[show(unpack K S J v).H id=_ from h2,Kx,Qr hid]
theorem XI{T:U.Ty}{k:Nat}{nE:Option Nat}(hsz:U.size T=k)(hnE:T0 U T nE=true)(xs:List (U.den T)):Fo k nE (xs.map (U.pv T))/\∀a:U.den T,xb nE (U.pv T a)=(tM K T a).pv:=by
 have key:∀a:U.den T,qn nE (U.pv T a)=some (da T a):=by
  intro a;unfold da
  cases nE with
  |none=>
   simp only[T0,Bool.not_eq_true']at hnE;have h1:=K.len T a;rw[K.one T hnE]at h1;rw[hnE]
   match h2:U.pv T a with
   |[]=>rw[h2]at h1;cases h1
   |x::l=>rfl
  |some n=>
   simp only[T0,Qm]at hnE;have h1:=QF hnE.2;subst h1;rw[hnE.1,qn,Qr (by rw[K.len];exact QI _),<-K.len T a,List.take_length]
 have hev:∀a:U.den T,xb nE (U.pv T a)=da T a:=fun a=>by simp only[xb,key,Q3]
 refine⟨⟨fun e he=> ?_,fun e he=> ?_,fun e he=> ?_⟩,fun a=>by rw[hev,ux]⟩
 ·obtain⟨a,_,rfl⟩:=QP.1 he;rw[K.len,hsz]
 ·obtain⟨a,_,rfl⟩:=QP.1 he;rw[hev,key]
 ·obtain⟨a,_,rfl⟩:=QP.1 he;rw[hev];unfold da;split
  ·exact QH.2 fun y hy=>fM (K.fS T a y hy)
  ·cases h2:U.pv T a with
   |nil=>have:=K.len T a;rename_i hag;rw[K.one T hag,h2]at this;cases this
   |cons x l=>
    have h3:=fM (K.fS T a x (by rw[h2];exact Qx))
    have h4:=K.fS T a x (by rw[h2];exact Qx)
    cases x<;>first|exact h3|(cases h4)
theorem ec{Γ:List (dm U)}(hΓ:rH P Γ):∀(sa:SA U) {ρ:Type} (F:List Nat) (W:WS) (k:Exit->aQ U->Option ρ) (S:aQ U) (r:ρ),sa.dn=true->my K Γ sa F W k S=some r->
  VS P nt sa.erase (fun e A=>∃S',A=S'.st/\ig F W S S'/\k e S'=some r) S.st
 | .skip,ρ,F,W,k,S,r,hok,h=>Th ⟨S,rfl,ig.refl _ _ _,h⟩
 | .exit id,ρ,F,W,k,S,r,hok,h=>Ti ⟨S,rfl,ig.refl _ _ _,h⟩
 | .ret,ρ,F,W,k,S,r,hok,h=>Wb ⟨S,rfl,ig.refl _ _ _,h⟩
 | .su rs,ρ,F,W,k,S,r,hok,h=>by
  simp only[my]at h;split at h
  ·rename_i ho;exact Z0 hΓ hok h fun S' hf hk=>⟨S',rfl,(hf.toC ho).more,hk⟩
  ·cases h
 | .qq un rs,ρ,F,W,k,S,r,hok,h=>by
  simp only[my]at h;split at h
  ·rename_i ho;obtain⟨Γs,S',fs,h1,h2,h3,h4⟩:=s9 hΓ rs 0 _ _ hok h;split at h4
   ·rename_i hun;refine Wc h1 (S':=S'.st) ?_ ⟨S',rfl,(h3.toC ho).more,h4⟩;rw[RS.we];have e:({S.st with N:=S.st.N+rs.len}:St)=(S.more rs.len).st:=rfl
    rw[e,Lj];rw[show S.st.N=S.N from rfl,h2]
    exact Qr hun
   ·cases h4
  ·cases h
 | .seq x y,ρ,F,W,k,S,r,hok,h=>by
  simp only[SA.dn,Qm]at hok;refine Rm ((ec hΓ x F W _ S r hok.1 h).mono ?_);rintro e A ⟨S',rfl,hf,hk⟩
  cases e with
  |normal=>exact(ec hΓ y F W k S' r hok.2 hk).mono fun e A ⟨S'',h1,h2,h3⟩=>⟨S'',h1,hf.trans h2,h3⟩
  |exit i=>exact⟨S',rfl,hf,hk⟩
  |goto l=>exact⟨S',rfl,hf,hk⟩
  |ret=>exact⟨S',rfl,hf,hk⟩
  |panic c=>exact⟨S',rfl,hf,hk⟩
  |outgrown=>exact⟨S',rfl,hf,hk⟩
 | .join J x y,ρ,F,W,k,S,r,hok,h=>by
  simp only[SA.dn,Qm]at hok;simp only[my]at h;split at h
  ·rename_i hchk;unfold bm at h
   have hsub:∀S',ig J.er (some (S.N,eM J.items)) S S'->ig F W S S':=by
    intro S' hf;simp only[rl,Qm,QH]at hchk;obtain⟨⟨⟨⟨⟨⟨hnd,hids⟩,hokv⟩,hkeep⟩,hobj⟩,hF⟩,hW⟩:=hchk;refine⟨fun t ht=>hf.env t (dY.1 (hF t ht)),fun id hid=>hf.H id ?_,hf.N⟩
    simp only[okW,Bool.or_eq_false_iff];refine⟨?_,?_⟩
    ·cases W with
     |none=>cases hW
     |some q=>
      obtain⟨n,l⟩:=q;simp only at hW;simp only[okW,Bool.or_eq_false_iff]at hid;have h1:=QG hW
      cases hb:Nat.ble S.N id with
      |false=>rfl
      |true=>have:=QG hb;rw[Nat.ble_eq_true_of_le (QK h1 this)]at hid;cases hid.1
    ·cases hb:gD id (eM J.items)with
     |false=>rfl
     |true=>have:=(hids id (dY.1 hb)).2;rw[hid]at this;cases this
   refine Rm ((ec hΓ x J.er _ _ S r hok.1 h).mono ?_);rintro e A ⟨S',rfl,hf,hk⟩
   cases e with
   |normal=>
    simp only at hk;split at hk
    ·rename_i v hv;refine Tg (EG hchk hv hf) ?_;exact(ec hΓ y F W k _ r hok.2 hk).mono fun e A ⟨S'',h1,h2,h3⟩=>⟨S'',h1,(HV hchk v).trans h2,h3⟩
    ·cases hk
   |exit i=>exact⟨S',rfl,hsub S' hf,hk⟩
   |goto l=>exact⟨S',rfl,hsub S' hf,hk⟩
   |ret=>exact⟨S',rfl,hsub S' hf,hk⟩
   |panic c=>exact⟨S',rfl,hsub S' hf,hk⟩
   |outgrown=>exact⟨S',rfl,hsub S' hf,hk⟩
  ·cases h
 | .cond c x y,ρ,F,W,k,S,r,hok,h=>by
  simp only[SA.dn,Qm]at hok;simp only[my]at h;split at h
  ·rename_i b hb;have hv:c.val S.st= .bool b:=by rw[uF hok.1.1,hb];rfl
   refine Tj hv ?_
   cases b with
   |true=>exact ec hΓ x F W k S r hok.1.2 h
   |false=>exact ec hΓ y F W k S r hok.2 h
  ·rename_i hb;have hv:c.val S.st= .fL:=by rw[uF hok.1.1,hb];rfl
   obtain⟨h1,h2⟩:=VY h;exact Ro hv (ec hΓ x F W k S r hok.1.2 h1) (ec hΓ y F W k S r hok.2 h2)
  ·cases h
 | .block id x,ρ,F,W,k,S,r,hok,h=>by
  refine Rp ((ec hΓ x F W _ S r hok h).mono ?_);rintro e A ⟨S',rfl,hf,hk⟩
  cases e with
  |exit i=>
   simp only at hk;simp only[BR];split at hk
   ·rename_i hi;rw[Qr (QF hi)];exact⟨S',rfl,hf,hk⟩
   ·rename_i hi;rw[Qs (Nat.ne_of_beq_eq_false hi)];exact⟨S',rfl,hf,hk⟩
  |normal=>exact⟨S',rfl,hf,hk⟩
  |goto l=>exact⟨S',rfl,hf,hk⟩
  |ret=>exact⟨S',rfl,hf,hk⟩
  |panic c=>exact⟨S',rfl,hf,hk⟩
  |outgrown=>exact⟨S',rfl,hf,hk⟩
 | .loop J x,ρ,F,W,k,S,r,hok,h=>by
  simp only[my]at h;split at h
  ·rename_i hchk;split at h
   ·rename_i v0 hv0
    have hsub:∀v S',ig J.er (some (S.N,eM J.items)) (unpack K S J v) S'->ig F W S S':=by
     intro v S' hf;have hm:=HV (K:=K) hchk v;refine hm.trans ?_;simp only[rl,Qm,QH]at hchk;obtain⟨⟨⟨⟨⟨⟨hnd,hids⟩,hokv⟩,hkeep⟩,hobj⟩,hF⟩,hW⟩:=hchk;refine⟨fun t ht=>hf.env t (dY.1 (hF t ht)),fun id hid=>hf.H id ?_,hf.N⟩
     simp only[okW,Bool.or_eq_false_iff];refine⟨?_,?_⟩
     ·cases W with
      |none=>cases hW
      |some q=>
       obtain⟨n,l⟩:=q;simp only at hW;simp only[okW,Bool.or_eq_false_iff]at hid;have h1:=QG hW
       cases hb:Nat.ble S.N id with
       |false=>rfl
       |true=>have:=QG hb;rw[Nat.ble_eq_true_of_le (QK h1 this)]at hid;cases hid.1
     ·cases hb:gD id (eM J.items)with
      |false=>rfl
      |true=>have:=(hids id (dY.1 hb)).2;rw[hid]at this;cases this
    have hself:∀v S',ig J.er (some (S.N,eM J.items)) (unpack K S J v) S'->∀v',pack K S' J.items=some v'->∀(E:En) (a:Act) (w:World) (L:Nat->Value),Rel E S'.st a w L->∃L',Rel E (unpack K S J v').st a w L':=by
     intro v S' hf v' hv' E a w L hrel;have hc:=hchk;simp only[rl,Qm,QH]at hc;obtain⟨⟨⟨⟨⟨⟨hnd,hids⟩,hokv⟩,hkeep⟩,hobj⟩,hF⟩,hW⟩:=hc;refine⟨L,Rel.meet hchk hv' (fun t ht=>(hf.env t ht).trans ?_) (fun id hid hni=>(hf.H id ?_).trans ?_) (by have:=hf.N;rw[unpack,Bp,Kw]at this;exact this) hrel⟩
     ·have hns:gD t (slotsOf J.items)=false:=by simpa using(hkeep t ht).2
      rcases wX (K:=K) (S.base J.er) J.items v t with⟨⟨i,d⟩,hmem,h1,h2⟩|⟨_,h2⟩
      ·exact absurd (z6 (jI hmem) h1) (nR hns)
      ·rw[show(unpack K S J v).env t=_ from h2,C6,Qr ht]
     ·simp only[okW,Bool.or_eq_false_iff];refine⟨?_,?_⟩
      ·cases hb:Nat.ble S.N id with
       |false=>rfl
       |true=>have:=QG hb;omega
      ·cases hb:gD id (eM J.items)with
       |false=>rfl
       |true=>exact absurd (dY.1 hb) hni
     ·rcases Bq (K:=K) (S.base J.er) J.items v id hnd with⟨⟨i,d⟩,hmem,h1,h2⟩|⟨_,h2⟩
      ·exact absurd (rV (jI hmem) h1) hni
      ·rw[show(unpack K S J v).H id=_ from h2,Kx,Qr hid]
    obtain⟨n,hn⟩:=yc h
    refine Rn (fun m A=>∃v,A=(unpack K S J v).st/\n4 (fun v=>my K Γ x J.er (some (S.N,eM J.items)) (fun e S'=>match e with
     | .normal=>(match pack K S' J.items with|some v=>some (Sum.inl v)|none=>none)
     |e=>(k e S').map Sum.inr) (unpack K S J v)) m v=some r) n (EG hchk hv0 (ig.refl _ _ _)) ⟨v0,rfl,hn⟩ ?_
    rintro m A ⟨v,rfl,hm⟩
    cases m with
    |zero=>cases hm
    |succ m=>
     simp only[n4]at hm;split at hm
     ·cases hm
     ·rename_i r' hs;injection hm with hm
      subst hm;refine(ec hΓ x J.er _ _ _ _ hok hs).mono ?_;rintro e A ⟨S',rfl,hf,hk⟩
      cases e with
      |normal=>
       simp only at hk;split at hk<;>cases hk
      |exit i=>simp only[Qb]at hk;obtain⟨q,hq,e⟩:=hk;injection e with e;subst e;exact⟨S',rfl,hsub v S' hf,hq⟩
      |goto l=>simp only[Qb]at hk;obtain⟨q,hq,e⟩:=hk;injection e with e;subst e;exact⟨S',rfl,hsub v S' hf,hq⟩
      |ret=>simp only[Qb]at hk;obtain⟨q,hq,e⟩:=hk;injection e with e;subst e;exact⟨S',rfl,hsub v S' hf,hq⟩
      |panic c=>simp only[Qb]at hk;obtain⟨q,hq,e⟩:=hk;injection e with e;subst e;exact⟨S',rfl,hsub v S' hf,hq⟩
      |outgrown=>simp only[Qb]at hk;obtain⟨q,hq,e⟩:=hk;injection e with e;subst e;exact⟨S',rfl,hsub v S' hf,hq⟩
     ·rename_i v' hs;refine(ec hΓ x J.er _ _ _ _ hok hs).mono ?_;rintro e A ⟨S',rfl,hf,hk⟩
      cases e with
      |normal=>
       simp only at hk;split at hk
       ·rename_i v1 hv1;injection hk with hk
        injection hk with hk
        subst hk;exact⟨m,Nat.lt_succ_self m,_,hself v S' hf v1 hv1,v1,rfl,hm⟩
       ·cases hk
      |exit i=>simp only[Qb]at hk;obtain⟨q,hq,e⟩:=hk;cases e
      |goto l=>simp only[Qb]at hk;obtain⟨q,hq,e⟩:=hk;cases e
      |ret=>simp only[Qb]at hk;obtain⟨q,hq,e⟩:=hk;cases e
      |panic c=>simp only[Qb]at hk;obtain⟨q,hq,e⟩:=hk;cases e
      |outgrown=>simp only[Qb]at hk;obtain⟨q,hq,e⟩:=hk;cases e
   ·cases h
  ·cases h
 | .UT n x,ρ,F,W,k,S,r,hok,h=>by
  simp only[my]at h;have⟨g,hg,h⟩:=(⟨_,rfl,h⟩:∃g,g=_/\Oj g n S=some r);refine Rn (fun m A=>∃S1:aQ U,A=S1.st/\ig F W S S1/\Oj g m S1=some r) n (fun E a w L h=>⟨L,h⟩) ⟨S,rfl,ig.refl _ _ _,h⟩ ?_
  rintro m A ⟨S1,rfl,hf1,hm⟩
  cases m with
  |zero=>cases hm
  |succ m=>
   simp only[Oj]at hm;rw[hg]at hm;simp only at hm;rw[<-hg]at hm;refine(ec hΓ x F W _ S1 r hok hm).mono ?_;rintro e A ⟨S',rfl,hf,hk⟩
   cases e with
   |normal=>exact⟨m,Nat.lt_succ_self m,S'.st,fun E a w L h=>⟨L,h⟩,S',rfl,hf1.trans hf,hk⟩
   |exit i=>exact⟨S',rfl,hf1.trans hf,hk⟩
   |goto l=>exact⟨S',rfl,hf1.trans hf,hk⟩
   |ret=>exact⟨S',rfl,hf1.trans hf,hk⟩
   |panic c=>exact⟨S',rfl,hf1.trans hf,hk⟩
   |outgrown=>exact⟨S',rfl,hf1.trans hf,hk⟩
 | .back J f kk nE T tg p0 p1 x y,ρ,F,W,k,S,r,hok,h=>by
  simp only[SA.dn,Qm]at hok;simp only[my]at h;obtain⟨D,hD⟩:∃D,SC.qF (.Bl (.tmp tg) [p0,p1] x.erase y.erase)=D:=⟨_,rfl⟩;rw[hD]at h;split at h
  ·rename_i hcond;simp only[Qm]at hcond;obtain⟨⟨⟨⟨⟨⟨hbk,hsz⟩,hnE⟩,htk⟩,hkD⟩,hFD⟩,hchk⟩:=hcond;have hsz:=QF hsz;have htk:=dY.1 htk
   have htD:tg∉D:=fun hm=>by
    have:=QH.1 hkD tg hm;rw[dY.2 htk]at this;cases this
   have hp:∀q,q=p0\/q=p1->gD q J.er=false:=by
    intro q hq;have hqD:q∈D:=by rw[<-hD];rcases hq with rfl|rfl<;>simp[SC.qF]
    simpa using QH.1 hkD q hqD
   split at h
   ·rename_i f' T' xs' hclo;split at h
    ·rename_i hff;have hff:=QF hff;subst hff;split at h
     ·rename_i xs hcast;obtain⟨eT,hxs⟩:=lP hcast;subst eT;simp only at hxs;subst hxs;split at h
      ·rename_i v0 hv0;obtain⟨hin,hev⟩:=XI (K:=K) hsz hnE xs;have⟨step,hstep,h⟩:=(⟨_,rfl,h⟩:∃step,step=_/\kX step (fun v=>k .normal (unpack K (S.fB D) J v)) xs.reverse v0=some r)
       have hN:(S.fB D).N=S.N:=rfl;refine Z2 (Ib hΓ hbk) hin (by rw[hD];exact htD) (fun i A=>∃v,A=(unpack K (S.fB D) J v).st/\kX step (fun v=>k .normal (unpack K (S.fB D) J v)) (xs.take i).reverse v=some r) ?_ ?_ ?_ ?_
       ·rw[hD,<-B8];refine⟨_,EG hchk hv0 (ig.refl _ _ _),v0,rfl,?_⟩;rw[QC,List.take_length];exact h
       ·rintro i A ⟨v,rfl,_⟩;show((unpack K (S.fB D) J v).env tg).pv=_;rw[MN hchk v htk];have:(S.fB D).env tg=S.env tg:=(CW hkD none S).env tg htk;rw[this,hclo];rfl
       ·rintro m A e ⟨v,rfl,hm⟩ he;rw[QT,Qb]at he;obtain⟨a,ha,rfl⟩:=he;have hml:m<xs.length:=(Qw.1 ha).1;rw[List.take_add_one,ha,Option.toList_some,List.reverse_append]at hm;simp only[List.reverse_cons,List.reverse_nil,List.nil_append,List.singleton_append,kX]at hm;rw[List.length_reverse,List.length_take,Nat.min_eq_left (Nat.le_of_lt hml)]at hm
        obtain⟨z,hz,hzr⟩:∃z,step m a v=some z/\(match z with| .inr r'=>r'=r| .inl s'=>kX step (fun v=>k .normal (unpack K (S.fB D) J v)) (xs.take m).reverse s'=some r):=by
         split at hm
         ·cases hm
         ·rename_i r' hs;injection hm with hm
          exact⟨_,hs,hm⟩
         ·rename_i s' hs;exact⟨_,hs,hm⟩
        clear hm;rw[hstep]at hz;simp only at hz
        have hst:({(unpack K (S.fB D) J v).st with env:=bw (bw (unpack K (S.fB D) J v).st.env p0 (.int .i64 m)) p1 (xb nE (U.pv _ a))}:St)=aQ.st {(unpack K (S.fB D) J v)with env:=gi (gi (unpack K (S.fB D) J v).env p0 (.int .i64 m)) p1 (tM K _ a)}:=by
         have henv:bw (bw (unpack K (S.fB D) J v).st.env p0 (.int .i64 m)) p1 (xb nE (U.pv _ a))=fun t=>((gi (gi (unpack K (S.fB D) J v).env p0 (.int .i64 m)) p1 (tM K _ a)) t).pv:=by
          funext t
          simp only[cp,hev];unfold bw;split
          ·rfl
          ·split
           ·rfl
           ·rfl
         exact congrArg (fun e=>({(unpack K (S.fB D) J v).st with env:=e}:St)) henv
        rw[hst]
        have hf0:ig J.er (some (S.N,eM J.items)) (unpack K (S.fB D) J v) {(unpack K (S.fB D) J v)with env:=gi (gi (unpack K (S.fB D) J v).env p0 (.int .i64 m)) p1 (tM K _ a)}:=by
         refine⟨fun t ht=> ?_,fun _ _=>rfl,QI _⟩
         simp only[cp];rw[bW _ _ (fun e=>by have:=hp t (.inr e);rw[dY.2 ht]at this;cases this),bW _ _ (fun e=>by have:=hp t (.inl e);rw[dY.2 ht]at this;cases this)]
        refine(ec hΓ x J.er _ _ _ _ hok.1 hz).mono ?_;rintro e A ⟨S1,rfl,hf1,hk1⟩
        cases e with
        |normal=>
         simp only at hk1;refine(ec hΓ y J.er _ _ _ _ hok.2 hk1).mono ?_;rintro e A ⟨S2,rfl,hf2,hk2⟩;have hf3:ig J.er (some (S.N,eM J.items)) (unpack K (S.fB D) J v) (S2.fB D):=((hf0.trans hf1).trans hf2).trans (CW hkD _ _);have hf4:ig F W S (S2.fB D):=(CW hFD W S).trans (Pc hchk v hf3);rw[hD]
         cases e with
         |normal=>
          simp only at hk2;split at hk2
          ·rename_i v' hv';injection hk2 with hk2
           subst hk2;refine⟨_,?_,v',rfl,hzr⟩;rw[<-B8];exact Vo hchk v hf3 hv'
          ·cases hk2
         |ret=>
          simp only[Qb]at hk2;obtain⟨q,hq,rfl⟩:=hk2;simp only at hzr;subst hzr;exact⟨S2.fB D,(B8 _ _).symm,hf4,hq⟩
         |exit i=>
          simp only[Qb]at hk2;obtain⟨q,hq,rfl⟩:=hk2;simp only at hzr;subst hzr;exact⟨S2.fB D,(B8 _ _).symm,hf4,hq⟩
         |goto i=>cases hk2
         |panic ch=>cases hk2
         |outgrown=>cases hk2
        |ret=>cases hk1
        |exit i=>cases hk1
        |goto i=>cases hk1
        |panic ch=>cases hk1
        |outgrown=>cases hk1
       ·rintro A ⟨v,rfl,hm⟩;simp only[List.take_zero,List.reverse_nil,kX]at hm;exact⟨_,rfl,(CW hFD W S).trans (Pc hchk v (ig.refl _ _ _)),hm⟩
      ·cases h
     ·cases h
    ·cases h
   ·cases h
  ·cases h
 | .ps p x,ρ,F,W,k,S,r,hok,h=>by
  simp only[my]at h;split at h
  ·rename_i hW;simp only[Qm]at hW;split at h
   ·rename_i S1 hp;refine Tg (fun E a w L hr=>Ps.sound K hp hr) ((ec hΓ x F W k S1 r hok h).mono fun e A ⟨S'',h1,h2,h3⟩=>⟨S'',h1,ig.trans ?_ h2,h3⟩)
    exact(Ps.frm hp hW.1).toC hW.2
   ·cases h
  ·cases h
 | .Di p x,ρ,F,W,k,S,r,hok,h=>by
  refine Z1 (ec hΓ x F W _ S r hok h) ?_;rintro e A ⟨S',rfl,hf,hk⟩
  cases e with
  |normal=>
   simp only at hk;split at hk
   ·rename_i hW;simp only[Qm]at hW;split at hk
    ·rename_i S1 hp;exact⟨S1.st,⟨S1,rfl,hf.trans ((Ps.frm hp hW.1).toC hW.2),hk⟩,fun E a w L hr=>Ps.sound K hp hr⟩
    ·cases hk
   ·cases hk
  |exit i=>exact⟨_,⟨S',rfl,hf,hk⟩,fun E a w L hr=>⟨L,hr⟩⟩
  |goto l=>exact⟨_,⟨S',rfl,hf,hk⟩,fun E a w L hr=>⟨L,hr⟩⟩
  |ret=>exact⟨_,⟨S',rfl,hf,hk⟩,fun E a w L hr=>⟨L,hr⟩⟩
  |panic c=>exact⟨_,⟨S',rfl,hf,hk⟩,fun E a w L hr=>⟨L,hr⟩⟩
  |outgrown=>exact⟨_,⟨S',rfl,hf,hk⟩,fun E a w L hr=>⟨L,hr⟩⟩
end
end Go.TQ
end
noncomputable section
namespace Go.TQ
open Go.RowKit
section
variable {P : Program} {E : En} {S : St} {a : Act} {w : World} {L : Nat -> Value} {nt : Nat}
theorem VS.post{sc:SC}{Q Q':Exit->St->Prop}{S:St}(h:VS P nt sc Q S)(hq:∀e A,Q e A->∃A',(∀(E:En) (a:Act) (w:World) (L:Nat->Value),Rel E A a w L->∃L',Rel E A' a w L')/\Q' e A'):VS P nt sc Q' S:=
 fun c hs hc E hE hk a w L hr=>wpIn_mono (h c hs hc E hE hk a w L hr) fun e a' w' ⟨S',L',h1,h2⟩=>by
  obtain⟨A',h3,h4⟩:=hq e S' h2;obtain⟨L'',h5⟩:=h3 E a' w' L' h1;exact⟨A',L'',h5,h4⟩
theorem Rel.abG(h:Rel E S a w L){id:Nat}{cs:List PV}(hid:id<S.N)(hc:(S.H id).c= .box cs):Rel E {S with H:=bw S.H id ⟨(S.H id).aq,.box (cs.map nz)⟩} a w L:=by
 have:=(h.qE (w':=w) hid ⟨(S.H id).aq,.box (cs.map nz)⟩ (L id) (.inl ⟨rfl,rfl,by rw[hc];rfl⟩) rfl rfl rfl (QI _) (fun _ _ _=>rfl) (fun b _ hb=> .inl ⟨by rw[hc];rfl,hb⟩) (fun hs hg=>by
  obtain⟨b,cur,T,h1,h2,h3,h4⟩:=h.pM hid hc
  exact⟨b,cur,T,h1,h2,h4,(h3.mono hs hg).nz⟩)).1
 rwa [B5]at this
end
section
variable {U : TU}
def Tz(S:aQ U):RV->Option (KV U)
 | .tmp t=>some (S.env t)
 | .cell t n=>(match S.env t with
  | .ptr id aq off=>(match S.qg id aq with|some cs=>EM n (cs.drop off)|none=>none)
  |_=>none)
def NY(S:aQ U):List RV->Option (List (KV U))
 |[]=>some []
 |r::rs=>(match Tz S r with
  |some x=>(match NY S rs with|some xs=>some (x::xs)|none=>none)
  |none=>none)
def Z8:List (KV U)->KV U
 |[x]=>x
 |xs=> .dG xs
def sF(S:aQ U)(rs:List RV):Option (KV U):=
 match NY S rs with
 |some xs=>some (Z8 xs)
 |none=>none
theorem WA{S:aQ U}{r:RV}{x:KV U}(h:Tz S r=some x):yP S.st r=some x.pv:=by
 cases r with
 |tmp t=>injection h with h;subst h;rfl
 |cell t n=>
  simp only[Tz]at h;split at h
  ·rename_i id aq off ht;split at h
   ·rename_i cs hb;obtain⟨h1,h2⟩:=tl hb;have h3:S.st.env t= .ptr id aq off:=by simp only[aQ.st,ht,KV.pv]
    simp only[yP,h3];rw[Qr h1,h2];have:=yA h;rw[List.map_drop]at this;exact this
   ·cases h
  ·cases h
theorem OJ{S:aQ U}:∀{rs:List RV} {xs:List (KV U)},NY S rs=some xs->tT S.st rs=some (xs.map KV.pv)
 |[],xs,h=>by injection h with h;subst h;rfl
 |r::rs,xs,h=>by
  simp only[NY]at h;split at h
  ·rename_i x hx;split at h
   ·rename_i ys hys;injection h with h
    subst h;simp only[tT,WA hx,OJ hys,QD]
   ·cases h
  ·cases h
theorem Bn{S:aQ U}{rs:List RV}{x:KV U}(h:sF S rs=some x):ql S.st rs=some x.pv:=by
 unfold sF at h;split at h
 ·rename_i xs hxs;injection h with h
  subst h;have:=OJ hxs;unfold ql;rw[this]
  match xs with
  |[]=>rfl
  |[x]=>rfl
  |x::y::l=>simp only[QD,Z8,KV.pv,KV.bZ]
 ·cases h
variable (K : TK U)
def zh(S:aQ U)(ex:Option Nat):(r:n3 U)->KV U->Option r.den
 | .one T,x=>uR K S.lk T x
 | .many Ts,x=>(match x with| .dG xs=>Oa K S.lk Ts xs|_=>none)
 | .fn a,x=>(match Nat.ble a.depth 9 with|true=>Ik K S ex a x|false=>none)
variable {K}
theorem LR{S:aQ U}{ex:Option Nat}(hex:∀id,ex=some id->∀e k T xs,(S.H id).c≠ .row e k T xs){r:n3 U}{x:KV U}{v:r.den}(h:zh K S ex r x=some v):fz S.st.H ex 9 x.pv=qH r v:=by
 cases r with
 |one T=>exact Hj hex 7 h
 |many Ts=>
  simp only[zh]at h;split at h
  ·rename_i xs;rw[KV.pv,KV.bZ,fz,qH,PS hex 6 Ts _ v h]
  ·cases h
 |fn a=>
  simp only[zh]at h;split at h
  ·rename_i hd;exact SX hex a 9 x v (QG hd) h
  ·cases h
variable (K)
def Rt(A_s:List (KV U)):aQ U:=
 {env:=fun t=>(A_s[t]?).getD .undef,H:=fun _=>⟨0,.dead⟩,N:=0}
def XP(pos:Nat)(cs A_s:List (KV U)):aQ U:=
 {env:=fun t=>((gJ pos [KV.ptr 0 0 0] A_s)[t]?).getD .undef,H:=fun id=>(match Nat.beq id 0 with|true=>⟨0,.box cs⟩|false=>⟨0,.dead⟩),N:=1}
def Uk{ρ:Type}(ex:Option Nat)(rs:List RV)(r:n3 U)(k:aQ U->r.den->Option ρ)(e:Exit)(S:aQ U):Option ρ:=
 match e with
 | .ret| .normal=>(match sF S rs with
  |some x=>(match zh K S ex r x with|some v=>k S v|none=>none)
  |none=>none)
 |_=>none
def yx(S:aQ U):List RV->Bool
 |[]=>true
 | .tmp _::l=>yx S l
 | .cell t _::l=>(match S.env t with| .ptr id _ _=> !Nat.beq id 0|_=>false)&&yx S l
 def SN(Γ:List (dm U))(sa:SA U)(rs:List RV)(A_s:List (ed U))(r:n3 U)(a:dz A_s):Option r.den:=
 my K Γ sa [] (some (0,[])) (Uk K none rs r fun _ v=>some v) (Rt (sC K A_s a))
 def rcK(Γ:List (dm U))(sa:SA U)(rs:List RV)(pos:Nat)(R:U.Ty)(A_s:List (ed U))(r:n3 U)(s:U.den R)(a:dz A_s):Option (r.den×U.den R):=
 my K Γ sa [] (some (0,[])) (Uk K (some 0) rs r fun S v=>(match yx S rs with
  |true=>(match S.qg 0 0 with
   |some cs=>(match K.dec R mo cs with|some s'=>some (v,s')|none=>none)
   |none=>none)
  |false=>none)) (XP pos (K.bY R s) (sC K A_s a))
 def nwK(Γ:List (dm U))(sa:SA U)(rs:List RV)(A_s:List (ed U))(R:U.Ty)(a:dz A_s):Option (U.den R):=
 my K Γ sa [] (some (0,[])) (fun e S=>(match e with
  | .ret=>(match sF S rs with
   |some (.ptr id aq 0)=>(match S.qg id aq with|some cs=>K.dec R mo cs|none=>none)
   |_=>none)
  |_=>none)) (Rt (sC K A_s a))
variable {K}
variable {P : Program} {nt : Nat}
theorem uj:∀(A_s:List (ed U)) (a:dz A_s),(fU A_s a).length=A_s.length
 |[],_=>by rw[fU];rfl
 |_::l,a=>by rw[fU,QE,uj l a.2,QE]
theorem LZ(A_s:List (ed U))(a:dz A_s):(Rt (sC K A_s a)).st=dC 0 false [] (fU A_s a):=by
 unfold Rt aQ.st dC;congr 1
 ·funext t
  rw[<-xl K];simp only[Qq,Qu,MR,QT];cases (sC K A_s a)[t]?<;>rfl
theorem Z4(pos:Nat)(R:U.Ty)(s:U.den R)(A_s:List (ed U))(a:dz A_s):(XP pos (K.bY R s) (sC K A_s a)).st=dC pos true (U.pv R s) (fU A_s a):=by
 unfold XP aQ.st dC;congr 1
 ·funext t
  rw[<-xl K];simp only[Qt];have:(gJ pos [PV.ptr 0 0 0] ((sC K A_s a).map KV.pv))=(gJ pos [KV.ptr 0 0 0] (sC K A_s a)).map KV.pv:=by simp[gJ,KV.pv]
  rw[this,QT];cases (gJ pos [KV.ptr 0 0 0] (sC K A_s a))[t]?<;>rfl
 ·funext id
  cases id with
  |zero=>simp only[and_self,Qt,cO.pv,dD.pv,K.oD]
  |succ id=>simp[Nat.beq,cO.pv,dD.pv]
theorem M1{ρ:Type}{ex:Option Nat}{rs:List RV}{r:n3 U}{k:aQ U->r.den->Option ρ}{e:Exit}{S:aQ U}{z:ρ}(h:Uk K ex rs r k e S=some z):(e= .ret\/e= .normal)/\∃x v,sF S rs=some x/\zh K S ex r x=some v/\k S v=some z:=by
 unfold Uk at h
 have go:∀{o:Option ρ},o=some z->o=(match sF S rs with
  |some x=>(match zh K S ex r x with|some v=>k S v|none=>none)
  |none=>none)->∃x v,sF S rs=some x/\zh K S ex r x=some v/\k S v=some z:=by
  intro o ho he;rw[ho]at he;replace he:=he.symm;split at he
  ·rename_i x hx;split at he
   ·rename_i v hv;exact⟨x,v,hx,hv,he⟩
   ·cases he
  ·cases he
 split at h
 ·exact⟨.inl rfl,go h rfl⟩
 ·exact⟨.inr rfl,go h rfl⟩
 ·cases h
theorem EY{f:FuncId}{Γ:List (dm U)}{sa:SA U}{rs:List RV}{A_s:List (ed U)}{r:n3 U}(hf:gE P f nt sa.erase rs)(hok:sa.dn=true)(hlen:A_s.length<=nt)(hΓ:rH P Γ){F:dz A_s->Option r.den}(hF:∀a,SN K Γ sa rs A_s r a=F a):dm.Sound P (.fn f A_s r F):=by
 refine⟨hf.enters,fun a v hv=> ?_⟩
 rw[<-hF a]at hv;refine hf.M9 (by simpa[uj]using hlen) ?_
 rw[<-LZ (K:=K)];refine(ec hΓ sa [] _ _ _ _ hok hv).mono ?_;rintro e A ⟨S',rfl,_,hk⟩;obtain⟨he,x,v',h1,h2,h3⟩:=M1 hk;injection h3 with h3
 subst h3
 have hret:xW rs false (fun r' cs''=>r'=qH r v'/\(false=true->cs''=[])) S'.st:=by
  unfold xW;rw[Bn h1];exact⟨LR (fun id hid=>by cases hid) h2,fun h=>by cases h⟩
 rcases he with rfl|rfl<;>exact hret
theorem Vh{S:aQ U}{id aq:Nat}{cs:List (KV U)}(hb:S.qg id aq=some cs){R:U.Ty}{s:U.den R}(hd:K.dec R mo cs=some s)(hN:id<S.N):(∀(E:En) (a:Act) (w:World) (L:Nat->Value),Rel E S.st a w L->∃L',Rel E {S.st with H:=bw S.st.H id ⟨aq,.box (U.pv R s)⟩} a w L'):=by
 intro E a w L h;obtain⟨h1,h2⟩:=tl hb;have:=h.abG hN h2;rw[h1,(rn (K.kO _ _ _ _ hd)).1]at this;exact⟨L,this⟩
theorem PD(K:TK U)(R:U.Ty)(s:U.den R):(U.pv R s).all PV.closed=true:=QH.2 fun y hy=>fM (K.fS R s y hy)
theorem U3{f:FuncId}{Γ:List (dm U)}{sa:SA U}{rs:List RV}{pos:Nat}{R:U.Ty}{A_s:List (ed U)}{r:n3 U}(hf:gE P f nt sa.erase rs)(hok:sa.dn=true)(hlen:1+A_s.length<=nt)(hΓ:rH P Γ)
  {F:U.den R->dz A_s->Option (r.den×U.den R)} (hF:∀s a,rcK K Γ sa rs pos R A_s r s a=F s a):dm.Sound P (.rc f pos R A_s r F):=by
 refine⟨hf.enters,fun s a v s' hv=> ?_⟩
 rw[<-hF s a]at hv;refine hf.M9 (by simpa[uj]using hlen) ?_
 rw[<-Z4 (K:=K)];refine(ec hΓ sa [] _ _ _ _ hok hv).post ?_;rintro e A ⟨S',rfl,hfr,hk⟩;obtain⟨he,x,v',h1,h2,h3⟩:=M1 hk;split at h3
 case h_2=>cases h3
 rename_i hnc;split at h3
 ·rename_i cs hb;split at h3
  ·rename_i s'' hd;injection h3 with h3
   injection h3 with h4 h5
   subst h4 h5;have hN:0<S'.N:=QJ (show 0<1 from Nat.one_pos) hfr.N
   refine⟨_,Vh hb hd hN,?_⟩;have h6:=Bn h1
   have hres:∀rs:List RV,yx S' rs=true->tT {S'.st with H:=bw S'.st.H 0 ⟨0,.box (U.pv R s'')⟩} rs=tT S'.st rs:=by
    intro rs hrs
    induction rs with
    |nil=>rfl
    |cons q rs ih=>
     cases q with
     |tmp t=>simp only[yx]at hrs;simp only[tT,yP,ih hrs]
     |cell t n=>
      simp only[yx,Qm]at hrs;have h9:=hrs.1;split at h9
      ·rename_i id aq off ht;have hne:id≠0:=by intro e;subst e;simp at h9
       have h10:S'.st.env t= .ptr id aq off:=by simp only[aQ.st,ht,KV.pv]
       simp only[tT,yP,h10,bW _ _ hne,ih hrs.2]
      ·cases h9
   have hret:xW rs true (fun r' cs''=>r'=qH r v'/\(true=true->cs''=U.pv R s'')) {S'.st with H:=bw S'.st.H 0 ⟨0,.box (U.pv R s'')⟩}:=by
    unfold xW
    have h7:ql {S'.st with H:=bw S'.st.H 0 ⟨0,.box (U.pv R s'')⟩} rs=some x.pv:=by
     rw[<-h6];unfold ql;have h8:=hres rs hnc;simp only[h8]
    rw[h7];simp only[bJ];refine⟨PD K R s'',?_,by simp⟩
    have hbx:=(xk hb).2;rw[<-LR (K:=K) (S:=S') (ex:=some 0) (fun id hid=>by injection hid with hid;subst hid;intro e k T xs hq;rw[hbx]at hq;cases hq) h2]
    have hz:∀(n:Nat) (y:PV),fz (bw S'.st.H 0 ⟨0,.box (U.pv R s'')⟩) (some 0) n y=fz S'.st.H (some 0) n y:=by
     intro n
     induction n with
     |zero=>intro y;simp only[fz]
     |succ n ih=>
      intro y;have hu:∀id,¬(some id=some 0)->bw S'.st.H 0 ⟨0,.box (U.pv R s'')⟩ id=S'.st.H id:=fun id hid=>bW _ _ (fun e=>hid (by rw[e]))
      have hm:fz (bw S'.st.H 0 ⟨0,.box (U.pv R s'')⟩) (some 0) n=fz S'.st.H (some 0) n:=funext ih
      cases y with
      |own id aq=>
       simp only[fz,hm]
       by_cases h0:some id=some 0
       ·rw[Qr (.inl h0),Qr (.inl h0)]
       ·rw[hu id h0]
      |ptr id aq off=>
       simp only[fz,hm]
       by_cases h0:some id=some 0
       ·rw[Qr (.inl h0),Qr (.inl h0)]
       ·rw[hu id h0]
      |agg cs=>simp only[fz,hm]
      |dG cs=>simp only[fz,hm]
      |bA f cs=>simp only[fz,hm]
      |_=>simp only[fz]
    exact hz 9 x.pv
   rcases he with rfl|rfl<;>exact hret
  ·cases h3
 ·cases h3
theorem Vi{f:FuncId}{Γ:List (dm U)}{sa:SA U}{t:Nat}{A_s:List (ed U)}{R:U.Ty}(hf:gE P f nt sa.erase [.tmp t])(hok:sa.dn=true)(hlen:A_s.length<=nt)(hΓ:rH P Γ){F:dz A_s->Option (U.den R)}(hF:∀a,nwK K Γ sa [.tmp t] A_s R a=F a):dm.Sound P (.nw f A_s R F):=by
 refine⟨hf.enters,fun a s hv=> ?_⟩
 rw[<-hF a]at hv;refine hf.ade (by simpa[uj]using hlen) ?_
 rw[<-LZ (K:=K)];intro c hs hc E hE hkt a' w L hr;refine wpIn_mono (ec hΓ sa [] _ _ _ _ hok hv c hs hc E hE hkt a' w L hr) ?_;rintro e a2 w2 ⟨A,L2,hrel,S',rfl,_,hk⟩;split at hk
 ·split at hk
  ·rename_i id aq hx;split at hk
   ·rename_i cs hb
    have hre:S'.st.env t= .ptr id aq 0:=by
     have:=Bn hx;simpa[ql,tT,yP,KV.pv]using this
    have hN:id<S'.N:=by
     have:=hrel.env t;rw[hre]at this;exact(this.pV (show(S'.st.gh L2).V id=aq from(tl hb).1)).1
    obtain⟨L3,h3⟩:=Vh hb hk hN E a2 w2 L2 hrel;refine⟨_,L3,h3,?_⟩
    have h7:ql {S'.st with H:=bw S'.st.H id ⟨aq,.box (U.pv R s)⟩} [.tmp t]=some (.ptr id aq 0):=by
     simp only[ql,tT,yP];rw[hre]
    simp only[O7];rw[h7];simp only[bJ,Qt];exact⟨PD K R s,trivial⟩
   ·cases hk
  ·cases hk
 ·cases hk
def UF(e k:Nat)(T:U.Ty)(xs:List (U.den T))(A_s:List (KV U)):aQ U:=
 {env:=fun t=>(((KV.own 0 0)::A_s)[t]?).getD .undef,H:=fun id=>(match Nat.beq id 0 with|true=>⟨0,.row e k T xs⟩|false=>⟨0,.dead⟩),N:=1}
theorem Tk(e k:Nat)(T:U.Ty)(xs:List (U.den T))(A_s:List (ed U))(a:dz A_s):(UF e k T xs (sC K A_s a)).st=pt e k (xs.map (U.pv T)) (fU A_s a):=by
 unfold UF aQ.st pt;congr 1
 ·funext t
  rw[<-xl K]
  cases t with
  |zero=>rfl
  |succ t=>
   simp only[List.getElem?_cons_succ,QT];cases (sC K A_s a)[t]?<;>rfl
 ·funext id
  cases id with
  |zero=>simp[cO.pv,dD.pv]
  |succ id=>simp[Nat.beq,cO.pv,dD.pv]
variable (K)
def rowAt(S:aQ U)(id aq e k:Nat)(T:U.Ty):Option (List (U.den T)):=
 match S.row? id aq with
 |some r=>(match Nat.beq r.e e&&Nat.beq r.k k with|true=>wR r.T T r.xs|false=>none)
 |none=>none
theorem Jh{S:aQ U}{id aq e k:Nat}{T:U.Ty}{xs:List (U.den T)}(h:rowAt S id aq e k T=some xs):(S.H id).aq=aq/\(S.H id).c= .row e k T xs:=by
 unfold rowAt at h;split at h
 ·rename_i r hr;obtain⟨h1,h2⟩:=zV hr;split at h
  ·rename_i hek;rw[Qm]at hek;obtain⟨eT,rfl⟩:=lP h;obtain⟨re,rk,rT,rxs⟩:=r;simp only at eT h2 hek;subst eT;exact⟨h1,by rw[h2,QF hek.1,QF hek.2]⟩
  ·cases h
 ·cases h
def Xo{ρ:Type}(rs:List RV)(r:n3 U)(e k:Nat)(T:U.Ty)(j:r.den->List (U.den T)->Option ρ)(en:Exit)(S:aQ U):Option ρ:=
 match en with
 | .ret| .normal=>(match sF S rs with
  |some x=>(match zh K (S.AO 0 0) (some 0) r x with
   |some v=>(match rowAt S 0 0 e k T with|some ys=>j v ys|none=>none)
   |none=>none)
  |none=>none)
 |_=>none
def Ul{ρ:Type}(rs:List RV)(e k:Nat)(T:U.Ty)(j:List (U.den T)->Option ρ)(en:Exit)(S:aQ U):Option ρ:=
 match en with
 | .ret| .normal=>(match sF S rs with
  |some (.own id aq)=>(match rowAt S id aq e k T with|some ys=>j ys|none=>none)
  |_=>none)
 |_=>none
 def X6(Γ:List (dm U))(sa:SA U)(rs:List RV)(e k:Nat)(T:U.Ty)(A_s:List (ed U))(r:n3 U)(xs:List (U.den T))(a:dz A_s):Option (r.den×List (U.den T)):=
 my K Γ sa [] (some (0,[])) (Xo K rs r e k T fun v ys=>some (v,ys)) (UF e k T xs (sC K A_s a))
 def cwK(Γ:List (dm U))(sa:SA U)(rs:List RV)(e k:Nat)(T:U.Ty)(A_s:List (ed U))(xs:List (U.den T))(a:dz A_s):Option (List (U.den T)):=
 my K Γ sa [] (some (0,[])) (Ul rs e k T fun ys=>some ys) (UF e k T xs (sC K A_s a))
 def fwK(Γ:List (dm U))(sa:SA U)(rs:List RV)(A_s:List (ed U))(e k:Nat)(T:U.Ty)(a:dz A_s):Option (List (U.den T)):=
 my K Γ sa [] (some (0,[])) (Ul rs e k T fun ys=>some ys) (Rt (sC K A_s a))
variable {K}
theorem VJ{ρ:Type}{rs:List RV}{r:n3 U}{e k:Nat}{T:U.Ty}{j:r.den->List (U.den T)->Option ρ}{en:Exit}{S:aQ U}{z:ρ}(h:Xo K rs r e k T j en S=some z):
  (en= .ret\/en= .normal)/\∃x v ys,sF S rs=some x/\zh K (S.AO 0 0) (some 0) r x=some v/\(S.H 0).aq=0/\(S.H 0).c= .row e k T ys/\j v ys=some z:=by
 have go:(match sF S rs with
  |some x=>(match zh K (S.AO 0 0) (some 0) r x with
   |some v=>(match rowAt S 0 0 e k T with|some ys=>j v ys|none=>none)
   |none=>none)
  |none=>none)=some z->∃x v ys,sF S rs=some x/\zh K (S.AO 0 0) (some 0) r x=some v/\(S.H 0).aq=0/\(S.H 0).c= .row e k T ys/\j v ys=some z:=by
  intro he;split at he
  ·rename_i x hx;split at he
   ·rename_i v hv;split at he
    ·rename_i ys hys;obtain⟨h1,h2⟩:=Jh hys;exact⟨x,v,ys,hx,hv,h1,h2,he⟩
    ·cases he
   ·cases he
  ·cases he
 unfold Xo at h;split at h
 ·exact⟨.inl rfl,go h⟩
 ·exact⟨.inr rfl,go h⟩
 ·cases h
theorem M3{ρ:Type}{rs:List RV}{e k:Nat}{T:U.Ty}{j:List (U.den T)->Option ρ}{en:Exit}{S:aQ U}{z:ρ}(h:Ul rs e k T j en S=some z):
  (en= .ret\/en= .normal)/\∃id aq ys,sF S rs=some (.own id aq)/\(S.H id).aq=aq/\(S.H id).c= .row e k T ys/\j ys=some z:=by
 have go:(match sF S rs with
  |some (.own id aq)=>(match rowAt S id aq e k T with|some ys=>j ys|none=>none)
  |_=>none)=some z->∃id aq ys,sF S rs=some (.own id aq)/\(S.H id).aq=aq/\(S.H id).c= .row e k T ys/\j ys=some z:=by
  intro he;split at he
  ·rename_i id aq hx;split at he
   ·rename_i ys hys;obtain⟨h1,h2⟩:=Jh hys;exact⟨id,aq,ys,hx,h1,h2,he⟩
   ·cases he
  ·cases he
 unfold Ul at h;split at h
 ·exact⟨.inl rfl,go h⟩
 ·exact⟨.inr rfl,go h⟩
 ·cases h
theorem Ml{f:FuncId}{Γ:List (dm U)}{sa:SA U}{rs:List RV}{e k:Nat}{T:U.Ty}{A_s:List (ed U)}{r:n3 U}(hf:gE P f nt sa.erase rs)(hok:sa.dn=true)(hlen:1+A_s.length<=nt)(hΓ:rH P Γ)
  {F:List (U.den T)->dz A_s->Option (r.den×List (U.den T))} (hF:∀xs a,X6 K Γ sa rs e k T A_s r xs a=F xs a):dm.Sound P (.rw f e k T A_s r F):=by
 refine⟨hf.enters,fun xs a v ys hv=> ?_⟩
 rw[<-hF xs a]at hv;refine hf.adb (by simpa[uj]using hlen) ?_
 rw[<-Tk (K:=K)];refine(ec hΓ sa [] _ _ _ _ hok hv).mono ?_;rintro en A ⟨S',rfl,_,hk⟩;obtain⟨he,x,v',ys',h1,h2,h3,h4,h5⟩:=VJ hk;injection h5 with h5
 injection h5 with h6 h7
 subst h6 h7
 have hH:S'.st.H 0=⟨0,.row e k (ys'.map (U.pv T))⟩:=by
  simp only[aQ.st,cO.pv,h3,h4,dD.pv]
 have hret:Ll rs e k (fun r' es''=>r'=qH r v'/\es''=ys'.map (U.pv T)) .ret S'.st:=by
  simp only[Ll];rw[Bn h1];simp only[hH];refine⟨trivial,trivial,tU K T ys',?_,trivial⟩;rw[<-LR (K:=K) (H9 S' 0 0) h2,LG]
 rcases he with rfl|rfl<;>exact hret
theorem PM{rs:List RV}{e k:Nat}{T:U.Ty}{S':aQ U}{id aq:Nat}{ys:List (U.den T)}(h1:sF S' rs=some (.own id aq))(h2:(S'.H id).aq=aq)(h3:(S'.H id).c= .row e k T ys)(K:TK U):Ay rs e k (fun es''=>es''=ys.map (U.pv T)) .ret S'.st:=by
 simp only[Ay];rw[Bn h1];simp only[KV.pv];refine⟨h2,?_⟩;have:(S'.st.H id).c= .row e k (ys.map (U.pv T)):=by simp only[aQ.st,cO.pv,h3,dD.pv]
 rw[this];exact⟨rfl,rfl,tU K T ys,rfl⟩
theorem VN{f:FuncId}{Γ:List (dm U)}{sa:SA U}{rs:List RV}{e k:Nat}{T:U.Ty}{A_s:List (ed U)}(hf:gE P f nt sa.erase rs)(hok:sa.dn=true)(hlen:1+A_s.length<=nt)(hΓ:rH P Γ)
  {F:List (U.den T)->dz A_s->Option (List (U.den T))} (hF:∀xs a,cwK K Γ sa rs e k T A_s xs a=F xs a):dm.Sound P (.cw f e k T A_s F):=by
 refine⟨hf.enters,fun xs a ys hv=> ?_⟩
 rw[<-hF xs a]at hv;refine hf.adg (by simpa[uj]using hlen) ?_
 rw[<-Tk (K:=K)];refine(ec hΓ sa [] _ _ _ _ hok hv).mono ?_;rintro en A ⟨S',rfl,_,hk⟩;obtain⟨he,id,aq,ys',h1,h2,h3,h5⟩:=M3 hk;injection h5 with h5
 subst h5;have hret:=PM h1 h2 h3 K;rcases he with rfl|rfl<;>exact hret
theorem VC{f:FuncId}{Γ:List (dm U)}{sa:SA U}{rs:List RV}{e k:Nat}{T:U.Ty}{A_s:List (ed U)}(hf:gE P f nt sa.erase rs)(hok:sa.dn=true)(hlen:A_s.length<=nt)(hΓ:rH P Γ)
  {F:dz A_s->Option (List (U.den T))} (hF:∀a,fwK K Γ sa rs A_s e k T a=F a):dm.Sound P (.fw f A_s e k T F):=by
 refine⟨hf.enters,fun a ys hv=> ?_⟩
 rw[<-hF a]at hv;refine hf.adf (by simpa[uj]using hlen) ?_
 rw[<-LZ (K:=K)];refine(ec hΓ sa [] _ _ _ _ hok hv).mono ?_;rintro en A ⟨S',rfl,_,hk⟩;obtain⟨he,id,aq,ys',h1,h2,h3,h5⟩:=M3 hk;injection h5 with h5
 subst h5;have hret:=PM h1 h2 h3 K;rcases he with rfl|rfl<;>exact hret
end
end Go.TQ
end
noncomputable section
namespace Go.TQ
def op{U:TU}(d:Nat)(x:bI)(r:RS U):RS U:= .op ⟨some d,none,x⟩ r
def opg{U:TU}(d t:Nat)(b:Bool)(x:bI)(r:RS U):RS U:= .op ⟨some d,some (t,b),x⟩ r
def ops{U:TU}(x:bI)(r:RS U):RS U:= .op ⟨none,none,x⟩ r
def tm(t:Nat):bb:= .tmp t
def ci(n:Int):bb:= .uI (.int .i64 n)
def mv{U:TU}(d t:Nat)(r:RS U):RS U:=op d (.lC (tm t)) r
def mc{U:TU}(d:Nat)(n:Int)(r:RS U):RS U:=op d (.lC (ci n)) r
def ld{U:TU}(d t:Nat)(r:RS U):RS U:=op d (.load none (tm t)) r
def ldk{U:TU}(d k t:Nat)(r:RS U):RS U:=op d (.load (some k) (tm t)) r
def fa{U:TU}(d o t:Nat)(r:RS U):RS U:=op d (.vx o (tm t)) r
def ia{U:TU}(d k a b:Nat)(r:RS U):RS U:=op d (.n5 k (tm a) (tm b)) r
def cl{U:TU}(d f:Nat)(l:List Nat)(r:RS U):RS U:=op d (.call f (l.map tm)) r
def sr{U:TU}(x:RS U)(c:SA U):SA U:= .seq (.su x) c
def aG(k:IntKind)(a b:Int):Int:=k.wrap (a+b)
def dK(k:IntKind)(a b:Int):Int:=k.wrap (a - b)
def aaz(k:IntKind)(a b:Int):Int:=k.wrap (a*b)
def OU(k:IntKind)(a b:Int):Int:=k.wrap (a.tdiv b)
def TA(_:IntKind)(a b:Int):Int:=a.tmod b
def Fi(k:IntKind)(a b:Int):Int:=k.wrap ((BitVec.ofInt k.bits a&&&BitVec.ofInt k.bits b).toNat)
def uD(k:IntKind)(a b:Int):Int:=k.wrap ((BitVec.ofInt k.bits a|||BitVec.ofInt k.bits b).toNat)
def adE(k:IntKind)(a b:Int):Int:=k.wrap ((BitVec.ofInt k.bits a^^^BitVec.ofInt k.bits b).toNat)
def wC(k:IntKind)(a b:Int):Int:=k.wrap ((BitVec.ofInt k.bits a&&& ~~~ BitVec.ofInt k.bits b).toNat)
def iS(k:IntKind)(a b:Int):Int:=k.wrap (a*2 ^ (min b.toNat k.bits))
def Wv(k:IntKind)(a b:Int):Int:=a.fdiv (2 ^ (min b.toNat k.bits))
def FQ(k:IntKind)(n:Int):Int:=k.wrap n
def dP(a b:Int):Int:=if b<a then b else a
def bo(a b:Int):Int:=if b>a then b else a
def js(neg:Bool)(a b:Int)(s t:ByteArray):Bool:=xor neg (decide (a=b)&&decide (s=t))
def jK{A R:Type}(B:(A->Option R)->A->Option R):Nat->A->Option R
 |0,_=>none
 |n+1,a=>B (jK B n) a
def BH{A C R:Type}(B:(A->C->Option R)->A->C->Option R):Nat->A->C->Option R
 |0,_,_=>none
 |n+1,a,c=>B (BH B n) a c
section
variable {U : TU}
inductive RN (U:TU) where
 |ps (p:Ps U)
 |xB (t:Nat)
def Wo(t:Nat):List SG->Option (List SG×SG×List SG)
 |[]=>none
 |o::r=>(match o.op with
  | .pick (.tmp t') _ _=>(match Nat.beq t t' with
   |true=>some ([],o,r)
   |false=>(match Wo t r with|some (b,q,r')=>some (o::b,q,r')|none=>none))
  |_=>(match Wo t r with|some (b,q,r')=>some (o::b,q,r')|none=>none))
def before(n:Nat):List (Nat×RN U)->List (Nat×RN U)
 |[]=>[]
 |(j,x)::l=>(match Nat.ble n j with|true=>[]|false=>(j,x)::before n l)
def after(n:Nat):List (Nat×RN U)->List (Nat×RN U)
 |[]=>[]
 |(j,x)::l=>(match Nat.ble n j with|true=>(j,x)::l|false=>after n l)
def wa(qq:Bool):Nat->List Nat->Nat->List SG->List (Nat×RN U)->RS U
 |0,_,_,_,_=> .nil
 |f+1,kn,i,[],ns=>(match ns with
  |(_,.ps p)::ns'=> .ps p (wa qq f kn i [] ns')
  |(_,.xB t)::ns'=> .xB t (wa qq f (t::kn) i [] ns')
  |[]=> .nil)
 |f+1,kn,i,o::r,ns=>(match(match ns with|(j,_)::_=>Nat.beq j i|[]=>false)with
  |true=>(match ns with
   |(_,.ps p)::ns'=> .ps p (wa qq f kn i (o::r) ns')
   |(_,.xB t)::ns'=> .xB t (wa qq f (t::kn) i (o::r) ns')
   |[]=> .nil)
  |false=>(match o.g with
   |none=> .op o (wa qq f kn (Nat.succ i) r ns)
   |some (t,w)=>(match gD t kn with
    |true=> .op o (wa qq f kn (Nat.succ i) r ns)
    |false=>(match qq with
     |true=> .xB t (wa qq f (t::kn) i (o::r) ns)
     |false=>(match Wo t (o::r)with
      |some (b,q,r')=>(match q.op with
       | .pick _ x y=> .ite t w (wa qq f (t::kn) i b (before (Nat.add i b.length) ns)) (q.d.getD 0) q.g x y (wa qq f kn (Nat.succ (Nat.add i b.length)) r' (after (Nat.add i b.length) ns))
       |_=> .nil)
      |none=> .nil)))))
inductive NT (U:TU) where
 |e
 |l (x:NT U)
 |r (x:NT U)
 |b (x y:NT U)
 |ps (p:Ps U) (x:NT U)
 |Di (p:Ps U) (x:NT U)
 |j (J:JS U) (x:NT U)
 |u (n:Nat) (x:NT U)
 |k (J:JS U) (f k:Nat) (nE:Option Nat) (T:U.Ty) (x:NT U)
 |g (ns:List (Nat×RN U))
def NT.lt:NT U->NT U
 | .l x=>x
 | .b x _=>x
 | .j _ x=>x.lt
 | .k _ _ _ _ _ x=>x.lt
 | .ps _ x=>x.lt
 | .Di _ x=>x.lt
 |_=> .e
def NT.rt:NT U->NT U
 | .r x=>x
 | .b _ x=>x
 | .j _ x=>x.rt
 | .k _ _ _ _ _ x=>x.rt
 | .ps _ x=>x.rt
 | .Di _ x=>x.rt
 |_=> .e
def NT.wrap:NT U->SA U->SA U
 | .ps p x,s=> .ps p (x.wrap s)
 | .Di p x,s=> .Di p (x.wrap s)
 |_,s=>s
def NT.core:NT U->NT U
 | .ps _ x=>x.core
 | .Di _ x=>x.core
 |x=>x
def aH:SC->NT U->SA U
 | .skip,t=>t.wrap .skip
 | .su ops,t=>t.wrap (.su (match t.core with| .g ns=>wa false 4000 [] 0 ops ns|_=>wa false 4000 [] 0 ops []))
 | .qq un ops,t=>t.wrap (.qq un (match t.core with| .g ns=>wa true 4000 [] 0 ops ns|_=>wa true 4000 [] 0 ops []))
 | .seq x y,t=>t.wrap (match t.core with
  | .j J u=> .join J (aH x u.lt) (aH y u.rt)
  |u=> .seq (aH x u.lt) (aH y u.rt))
 | .cond c x y,t=>t.wrap (.cond c (aH x t.lt) (aH y t.rt))
 | .block id x,t=>t.wrap (.block id (aH x t.lt))
 | .loop x,t=>t.wrap (match t.core with
  | .j J u=> .loop J (aH x u.lt)
  | .u n t=> .UT n (aH x t.lt)
  |_=> .loop ⟨[],[]⟩ (aH x t.lt))
 | .Bl g ps x y,t=>t.wrap (match t.core with
  | .k J f k nE T u=>(match g with
   | .tmp tg=> .back J f k nE T tg (ps.headD 0) (ps.tail.headD 0) (aH x u.lt) (aH y u.rt)
   |_=> .skip)
  |_=> .skip)
 | .exit id,t=>t.wrap (.exit id)
 | .ret,t=>t.wrap .ret
def aJ(P:Program)(nt:Nat)(hs:List Nat)(fn:Func):SC:=(fn.body.bind (aE P nt hs)).getD .skip
end
section
variable {U : TU} {P : Program}
structure KS (U:TU) (P:Program) where
 k:dm U
 s:k.Sound P
def KS.ks:List (KS U P)->List (dm U)
 |[]=>[]
 |x::l=>x.k::KS.ks l
theorem KS.all:∀l:List (KS U P),rH P (KS.ks l)
 |[]=>trivial
 |x::l=>⟨x.s,KS.all l⟩
variable {K : TK U} {f : FuncId} {A_s : List (ed U)} {r : n3 U} {e k : Nat} {T R : U.Ty}
theorem fk{f nt:Nat}{c:SC}{rs:List RV}(fn:Func)(hs:List Nat)(hf:P.funcs[f]?=some fn)(h0:fn.ntmps=nt:=by rfl)(h1:(fn.body.bind (aE P nt hs))=some c:=by kernel_rfl)(h2:mV P fn.results.toList=some rs:=by kernel_rfl)(h3:(fn.name== "runtime.NumGoroutine")=false:=by kernel_rfl):gE P f nt c rs:=⟨fn,hs,hf,h0,h1,h2,h3⟩
theorem bd(sa:SA U)(nt:Nat)(rs:List RV)(G:List (KS U P))(hf:gE P f nt sa.erase rs)(hok:sa.dn=true:=by kernel_rfl)(hlen:A_s.length<=nt:=by decide){F:dz A_s->Option r.den}(hF:SN K (KS.ks G) sa rs A_s r=F:=by kernel_rfl):dm.Sound P (.fn f A_s r F):=
 EY hf hok hlen (KS.all G) fun a=>congrFun hF a
theorem uC{pos:Nat}(sa:SA U)(nt:Nat)(rs:List RV)(G:List (KS U P))(hf:gE P f nt sa.erase rs)(hok:sa.dn=true:=by kernel_rfl)(hlen:1+A_s.length<=nt:=by decide){F:U.den R->dz A_s->Option (r.den×U.den R)}(hF:rcK K (KS.ks G) sa rs pos R A_s r=F:=by kernel_rfl):dm.Sound P (.rc f pos R A_s r F):=
 U3 hf hok hlen (KS.all G) fun s a=>congrFun (congrFun hF s) a
theorem roS{pos:Nat}{F:U.den R->dz A_s->Option (r.den×U.den R)}(h:dm.Sound P (.rc f pos R A_s r F))(hs:∀s a q,F s a=some q->q.2=s):dm.Sound P (.ro f pos R A_s r F):=
 ⟨h.1,fun s a v s' hv=>⟨hs s a _ hv,h.2 s a v s' hv⟩⟩
theorem nwS(sa:SA U)(nt t:Nat)(G:List (KS U P))(hf:gE P f nt sa.erase [.tmp t])(hok:sa.dn=true:=by kernel_rfl)(hlen:A_s.length<=nt:=by decide){F:dz A_s->Option (U.den R)}(hF:nwK K (KS.ks G) sa [.tmp t] A_s R=F:=by kernel_rfl):dm.Sound P (.nw f A_s R F):=
 Vi hf hok hlen (KS.all G) fun a=>congrFun hF a
theorem rwS(sa:SA U)(nt:Nat)(rs:List RV)(G:List (KS U P))(hf:gE P f nt sa.erase rs)(hok:sa.dn=true:=by kernel_rfl)(hlen:1+A_s.length<=nt:=by decide){F:List (U.den T)->dz A_s->Option (r.den×List (U.den T))}(hF:X6 K (KS.ks G) sa rs e k T A_s r=F:=by kernel_rfl):dm.Sound P (.rw f e k T A_s r F):=
 Ml hf hok hlen (KS.all G) fun s a=>congrFun (congrFun hF s) a
theorem PX(sa:SA U)(nt:Nat)(rs:List RV)(G:List (KS U P))(hf:gE P f nt sa.erase rs)(hok:sa.dn=true:=by kernel_rfl)(hlen:1+A_s.length<=nt:=by decide){F:List (U.den T)->dz A_s->Option (List (U.den T))}(hF:cwK K (KS.ks G) sa rs e k T A_s=F:=by kernel_rfl):dm.Sound P (.cw f e k T A_s F):=
 VN hf hok hlen (KS.all G) fun s a=>congrFun (congrFun hF s) a
theorem fwS(sa:SA U)(nt:Nat)(rs:List RV)(G:List (KS U P))(hf:gE P f nt sa.erase rs)(hok:sa.dn=true:=by kernel_rfl)(hlen:A_s.length<=nt:=by decide){F:dz A_s->Option (List (U.den T))}(hF:fwK K (KS.ks G) sa rs A_s e k T=F:=by kernel_rfl):dm.Sound P (.fw f A_s e k T F):=
 VC hf hok hlen (KS.all G) fun a=>congrFun hF a
theorem fnR(sa:SA U)(nt:Nat)(rs:List RV)(G:List (KS U P))(hf:gE P f nt sa.erase rs)(hok:sa.dn=true:=by kernel_rfl)(hlen:A_s.length<=nt:=by decide){B:(dz A_s->Option r.den)->dz A_s->Option r.den}(hB:(fun g=>SN K (.fn f A_s r g::KS.ks G) sa rs A_s r)=B):∀n,dm.Sound P (.fn f A_s r (jK B n))
 |0=>⟨hf.enters,fun a r h=>by cases h⟩
 |n+1=>EY (K:=K) (Γ:= .fn f A_s r (jK B n)::KS.ks G) (F:=jK B (n+1)) hf hok hlen ⟨fnR sa nt rs G hf hok hlen hB n,KS.all G⟩ fun a=>congrFun (congrFun hB (jK B n)) a
theorem AQ(sa:SA U)(nt:Nat)(rs:List RV)(G:List (KS U P))(hf:gE P f nt sa.erase rs)(hok:sa.dn=true:=by kernel_rfl)(hlen:A_s.length<=nt:=by decide){B:(dz A_s->Option r.den)->dz A_s->Option r.den}(hB:(fun g=>SN K (.fn f A_s r g::KS.ks G) sa rs A_s r)=B:=by kernel_rfl){F:dz A_s->Option r.den}(hF:∀a,∃n,F a=jK B n a):dm.Sound P (.fn f A_s r F):=
 ⟨hf.enters,fun a r h=>by
  obtain⟨n,hn⟩:=hF a;rw[hn]at h
  exact(fnR sa nt rs G hf hok hlen hB n).2 a r h⟩
theorem Uc(sa:SA U)(nt:Nat)(rs:List RV)(G:(g:dz A_s->Option r.den)->dm.Sound P (.fn f A_s r g)->List (KS U P))(hf:gE P f nt sa.erase rs)(hok:sa.dn=true:=by kernel_rfl)(hlen:A_s.length<=nt:=by decide){B:(dz A_s->Option r.den)->dz A_s->Option r.den}(hB:(fun g h=>SN K (.fn f A_s r g::KS.ks (G g h)) sa rs A_s r)=fun g _=>B g):∀n,dm.Sound P (.fn f A_s r (jK B n))
 |0=>⟨hf.enters,fun a r h=>by cases h⟩
 |n+1=>EY (K:=K) (Γ:= .fn f A_s r (jK B n)::KS.ks (G (jK B n) (Uc sa nt rs G hf hok hlen hB n))) (F:=jK B (n+1)) hf hok hlen ⟨Uc sa nt rs G hf hok hlen hB n,KS.all _⟩ fun a=>congrFun (congrFun (congrFun hB (jK B n)) (Uc sa nt rs G hf hok hlen hB n)) a
theorem abZ(sa:SA U)(nt:Nat)(rs:List RV)(G:(g:dz A_s->Option r.den)->dm.Sound P (.fn f A_s r g)->List (KS U P))(hf:gE P f nt sa.erase rs)(hok:sa.dn=true:=by kernel_rfl)(hlen:A_s.length<=nt:=by decide){B:(dz A_s->Option r.den)->dz A_s->Option r.den}(hB:(fun g h=>SN K (.fn f A_s r g::KS.ks (G g h)) sa rs A_s r)=(fun g _=>B g):=by kernel_rfl){F:dz A_s->Option r.den}(hF:∀a,∃n,F a=jK B n a):dm.Sound P (.fn f A_s r F):=
 ⟨hf.enters,fun a r h=>by
  obtain⟨n,hn⟩:=hF a;rw[hn]at h
  exact(Uc sa nt rs G hf hok hlen hB n).2 a r h⟩
theorem rwR(sa:SA U)(nt:Nat)(rs:List RV)(G:List (KS U P))(hf:gE P f nt sa.erase rs)(hok:sa.dn=true:=by kernel_rfl)(hlen:1+A_s.length<=nt:=by decide){B:(List (U.den T)->dz A_s->Option (r.den×List (U.den T)))->List (U.den T)->dz A_s->Option (r.den×List (U.den T))}(hB:(fun g=>X6 K (.rw f e k T A_s r g::KS.ks G) sa rs e k T A_s r)=B):∀n,dm.Sound P (.rw f e k T A_s r (BH B n))
 |0=>⟨hf.enters,fun s a r ys h=>by cases h⟩
 |n+1=>Ml (K:=K) (Γ:= .rw f e k T A_s r (BH B n)::KS.ks G) (F:=BH B (n+1)) hf hok hlen ⟨rwR sa nt rs G hf hok hlen hB n,KS.all G⟩ fun s a=>congrFun (congrFun (congrFun hB (BH B n)) s) a
theorem adF(sa:SA U)(nt:Nat)(rs:List RV)(G:List (KS U P))(hf:gE P f nt sa.erase rs)(hok:sa.dn=true:=by kernel_rfl)(hlen:1+A_s.length<=nt:=by decide){B:(List (U.den T)->dz A_s->Option (r.den×List (U.den T)))->List (U.den T)->dz A_s->Option (r.den×List (U.den T))}(hB:(fun g=>X6 K (.rw f e k T A_s r g::KS.ks G) sa rs e k T A_s r)=B:=by kernel_rfl){F:List (U.den T)->dz A_s->Option (r.den×List (U.den T))}(hF:∀s a,∃n,F s a=BH B n s a):dm.Sound P (.rw f e k T A_s r F):=
 ⟨hf.enters,fun s a r ys h=>by
  obtain⟨n,hn⟩:=hF s a;rw[hn]at h
  exact(rwR sa nt rs G hf hok hlen hB n).2 s a r ys h⟩
end
end Go.TQ
end
noncomputable section
namespace Go.TQ
structure an where
 aT:Int
 bq:(List Int)
 aS:(List an)
theorem an.eta(x:an):an.mk x.aT x.bq x.aS=x:=by cases x;rfl
@[reducible] def al (x:an):an:=an.mk x.aT x.bq x.aS
structure ae where
 aj:Int
 Value:ByteArray
@[simp] theorem ae.eta (x:ae):ae.mk x.aj x.Value=x:=rfl
structure ai where
 au:Int
 bs:Int
 aL:Int
 ab:an
 bx:Int
 aa:ae
 ak:ae
 aw:ae
 aF:Int
 aM:Int
@[simp] theorem ai.eta (x:ai):ai.mk x.au x.bs x.aL x.ab x.bx x.aa x.ak x.aw x.aF x.aM=x:=rfl
structure af where
 au:Int
 bs:Int
 aL:Int
 ab:an
 aA:Int
 aa:ae
 ak:ae
 aw:ae
 av:ae
 aF:Int
 aM:Int
 bf:ByteArray
 aC:(List ai)
@[simp] theorem af.eta (x:af):af.mk x.au x.bs x.aL x.ab x.aA x.aa x.ak x.aw x.av x.aF x.aM x.bf x.aC=x:=rfl
structure bh where
 dx:Bool
 ab:an
@[simp] theorem bh.eta (x:bh):bh.mk x.dx x.ab=x:=rfl
structure bp where
 aX:(List bh)
@[simp] theorem bp.eta (x:bp):bp.mk x.aX=x:=rfl
structure dQ where
 L:(List Int)
 At:Int
@[simp] theorem dQ.eta (x:dQ):dQ.mk x.L x.At=x:=rfl
structure aB where
 ao:af
@[simp] theorem aB.eta (x:aB):aB.mk x.ao=x:=rfl
structure Da where
 aK:Int
 low:Int
 bG:Int
 aN:ae
 dX:ae
 bM:ae
 dE:ae
@[simp] theorem Da.eta (x:Da):Da.mk x.aK x.low x.bG x.aN x.dX x.bM x.dE=x:=rfl
structure bu where
 ax:ai
@[simp] theorem bu.eta (x:bu):bu.mk x.ax=x:=rfl
structure fO where
 au:Int
 View:bp
 aC:(List bu)
@[simp] theorem fO.eta (x:fO):fO.mk x.au x.View x.aC=x:=rfl
structure nW where
 c0:ae
 c1:ae
@[simp] theorem nW.eta (x:nW):nW.mk x.c0 x.c1=x:=rfl
structure um where
 c0:Int
 c1:Int
@[simp] theorem um.eta (x:um):um.mk x.c0 x.c1=x:=rfl
attribute [simp] an.eta
inductive kZ where
 |ab
 |aa
 |ax
 |ao
 |lE
 |Config
 |Src
 |dV
 |He
 |ic
 |Seen
 |lV
 |qc
 deriving DecidableEq
inductive Ty where
 |i (k:IntKind)
 |bool
 |str
 |sl (t:Ty)
 |mp (a b:Ty)
 |st (n:kZ)
def kZ.den:kZ->Type
 | .ab=>an
 | .aa=>ae
 | .ax=>ai
 | .ao=>af
 | .lE=>bh
 | .Config=>bp
 | .Src=>dQ
 | .dV=>aB
 | .He=>Da
 | .ic=>bu
 | .Seen=>fO
 | .lV=>nW
 | .qc=>um
def Ty.den:Ty->Type
 | .i _=>Int
 | .bool=>Bool
 | .str=>ByteArray
 | .sl t=>List t.den
 | .mp a b=>List (a.den×b.den)
 | .st n=>n.den
def Ty.beq:Ty->Ty->Bool
 | .i k,.i k'=>decide (k=k')
 | .bool,.bool=>true
 | .str,.str=>true
 | .sl t,.sl t'=>Ty.beq t t'
 | .mp a b,.mp a' b'=>Ty.beq a a'&&Ty.beq b b'
 | .st n,.st n'=>decide (n=n')
 |_,_=>false
theorem Ty.eq_of_beq:∀{a b:Ty},Ty.beq a b=true->a=b
 | .i k,.i k',h=>by rw[of_decide_eq_true h]
 | .bool,.bool,_=>rfl
 | .str,.str,_=>rfl
 | .sl t,.sl t',h=>by rw[Ty.eq_of_beq (a:=t) (b:=t') h]
 | .mp a b,.mp a' b',h=>by
  rw[Ty.beq,Qm]at h;rw[Ty.eq_of_beq (a:=a) (b:=a') h.1,Ty.eq_of_beq (a:=b) (b:=b') h.2]
 | .st n,.st n',h=>by rw[of_decide_eq_true h]
 | .i _,.bool,h=>by cases h
 | .i _,.str,h=>by cases h
 | .i _,.sl _,h=>by cases h
 | .i _,.st _,h=>by cases h
 | .bool,.i _,h=>by cases h
 | .bool,.str,h=>by cases h
 | .bool,.sl _,h=>by cases h
 | .bool,.st _,h=>by cases h
 | .str,.i _,h=>by cases h
 | .str,.bool,h=>by cases h
 | .str,.sl _,h=>by cases h
 | .str,.st _,h=>by cases h
 | .sl _,.i _,h=>by cases h
 | .sl _,.bool,h=>by cases h
 | .sl _,.str,h=>by cases h
 | .sl _,.st _,h=>by cases h
 | .st _,.i _,h=>by cases h
 | .st _,.bool,h=>by cases h
 | .st _,.str,h=>by cases h
 | .st _,.sl _,h=>by cases h
 | .mp _ _,.i _,h=>by cases h
 | .i _,.mp _ _,h=>by cases h
 | .mp _ _,.bool,h=>by cases h
 | .bool,.mp _ _,h=>by cases h
 | .mp _ _,.str,h=>by cases h
 | .str,.mp _ _,h=>by cases h
 | .mp _ _,.sl _,h=>by cases h
 | .sl _,.mp _ _,h=>by cases h
 | .mp _ _,.st _,h=>by cases h
 | .st _,.mp _ _,h=>by cases h
theorem Ty.C5:∀(a:Ty),Ty.beq a a=true
 | .i k=>Qg rfl
 | .bool=>rfl
 | .str=>rfl
 | .sl t=>Ty.C5 t
 | .mp a b=>by rw[Ty.beq,Ty.C5 a,Ty.C5 b];rfl
 | .st n=>Qg rfl
def Ty.SU(a b:Ty):Decidable (a=b):=
 match h:Ty.beq a b with
 |true=>isTrue (Ty.eq_of_beq h)
 |false=>isFalse fun e=>by rw[e,Ty.C5]at h;cases h
@[reducible] def zr:List Ty->Type
 |[]=>Unit
 |t::l=>t.den×zr l
def kZ.leaves:kZ->List Ty
 | .ab=>[(Ty.i .i64),(Ty.sl (Ty.i .i64)),(Ty.sl (Ty.st .ab))]
 | .aa=>[(Ty.i .i64),Ty.str]
 | .ax=>[(Ty.i .i64),(Ty.i .i64),(Ty.i .i64),(Ty.i .i64),(Ty.sl (Ty.i .i64)),(Ty.sl (Ty.st .ab)),(Ty.i .i64),(Ty.i .i64),Ty.str,(Ty.i .i64),Ty.str,(Ty.i .i64),Ty.str,(Ty.i .i64),(Ty.i .i64)]
 | .ao=>[(Ty.i .i64),(Ty.i .i64),(Ty.i .i64),(Ty.i .i64),(Ty.sl (Ty.i .i64)),(Ty.sl (Ty.st .ab)),(Ty.i .i64),(Ty.i .i64),Ty.str,(Ty.i .i64),Ty.str,(Ty.i .i64),Ty.str,(Ty.i .i64),Ty.str,(Ty.i .i64),(Ty.i .i64),Ty.str,(Ty.sl (Ty.st .ax))]
 | .lE=>[Ty.bool,(Ty.i .i64),(Ty.sl (Ty.i .i64)),(Ty.sl (Ty.st .ab))]
 | .Config=>[(Ty.sl (Ty.st .lE))]
 | .Src=>[(Ty.sl (Ty.i .i64)),(Ty.i .i64)]
 | .dV=>[(Ty.i .i64),(Ty.i .i64),(Ty.i .i64),(Ty.i .i64),(Ty.sl (Ty.i .i64)),(Ty.sl (Ty.st .ab)),(Ty.i .i64),(Ty.i .i64),Ty.str,(Ty.i .i64),Ty.str,(Ty.i .i64),Ty.str,(Ty.i .i64),Ty.str,(Ty.i .i64),(Ty.i .i64),Ty.str,(Ty.sl (Ty.st .ax))]
 | .He=>[(Ty.i .i64),(Ty.i .i64),(Ty.i .i64),(Ty.i .i64),Ty.str,(Ty.i .i64),Ty.str,(Ty.i .i64),Ty.str,(Ty.i .i64),Ty.str]
 | .ic=>[(Ty.i .i64),(Ty.i .i64),(Ty.i .i64),(Ty.i .i64),(Ty.sl (Ty.i .i64)),(Ty.sl (Ty.st .ab)),(Ty.i .i64),(Ty.i .i64),Ty.str,(Ty.i .i64),Ty.str,(Ty.i .i64),Ty.str,(Ty.i .i64),(Ty.i .i64)]
 | .Seen=>[(Ty.i .i64),(Ty.sl (Ty.st .lE)),(Ty.sl (Ty.st .ic))]
 | .lV=>[(Ty.i .i64),Ty.str,(Ty.i .i64),Ty.str]
 | .qc=>[(Ty.i .i64),(Ty.i .i64)]
def kZ.toL:(n:kZ)->n.den->zr n.leaves
 | .ab,(v:an)=>(v.aT,v.bq,v.aS,())
 | .aa,(v:ae)=>(v.aj,v.Value,())
 | .ax,(v:ai)=>(v.au,v.bs,v.aL,v.ab.aT,v.ab.bq,v.ab.aS,v.bx,v.aa.aj,v.aa.Value,v.ak.aj,v.ak.Value,v.aw.aj,v.aw.Value,v.aF,v.aM,())
 | .ao,(v:af)=>(v.au,v.bs,v.aL,v.ab.aT,v.ab.bq,v.ab.aS,v.aA,v.aa.aj,v.aa.Value,v.ak.aj,v.ak.Value,v.aw.aj,v.aw.Value,v.av.aj,v.av.Value,v.aF,v.aM,v.bf,v.aC,())
 | .lE,(v:bh)=>(v.dx,v.ab.aT,v.ab.bq,v.ab.aS,())
 | .Config,(v:bp)=>(v.aX,())
 | .Src,(v:dQ)=>(v.L,v.At,())
 | .dV,(v:aB)=>(v.ao.au,v.ao.bs,v.ao.aL,v.ao.ab.aT,v.ao.ab.bq,v.ao.ab.aS,v.ao.aA,v.ao.aa.aj,v.ao.aa.Value,v.ao.ak.aj,v.ao.ak.Value,v.ao.aw.aj,v.ao.aw.Value,v.ao.av.aj,v.ao.av.Value,v.ao.aF,v.ao.aM,v.ao.bf,v.ao.aC,())
 | .He,(v:Da)=>(v.aK,v.low,v.bG,v.aN.aj,v.aN.Value,v.dX.aj,v.dX.Value,v.bM.aj,v.bM.Value,v.dE.aj,v.dE.Value,())
 | .ic,(v:bu)=>(v.ax.au,v.ax.bs,v.ax.aL,v.ax.ab.aT,v.ax.ab.bq,v.ax.ab.aS,v.ax.bx,v.ax.aa.aj,v.ax.aa.Value,v.ax.ak.aj,v.ax.ak.Value,v.ax.aw.aj,v.ax.aw.Value,v.ax.aF,v.ax.aM,())
 | .Seen,(v:fO)=>(v.au,v.View.aX,v.aC,())
 | .lV,(v:nW)=>(v.c0.aj,v.c0.Value,v.c1.aj,v.c1.Value,())
 | .qc,(v:um)=>(v.c0,v.c1,())
def kZ.Yb:(n:kZ)->zr n.leaves->n.den
 | .ab,v=>(an.mk v.1 v.2.1 v.2.2.1)
 | .aa,v=>(ae.mk v.1 v.2.1)
 | .ax,v=>(ai.mk v.1 v.2.1 v.2.2.1 (an.mk v.2.2.2.1 v.2.2.2.2.1 v.2.2.2.2.2.1) v.2.2.2.2.2.2.1 (ae.mk v.2.2.2.2.2.2.2.1 v.2.2.2.2.2.2.2.2.1) (ae.mk v.2.2.2.2.2.2.2.2.2.1 v.2.2.2.2.2.2.2.2.2.2.1) (ae.mk v.2.2.2.2.2.2.2.2.2.2.2.1 v.2.2.2.2.2.2.2.2.2.2.2.2.1) v.2.2.2.2.2.2.2.2.2.2.2.2.2.1 v.2.2.2.2.2.2.2.2.2.2.2.2.2.2.1)
 | .ao,v=>(af.mk v.1 v.2.1 v.2.2.1 (an.mk v.2.2.2.1 v.2.2.2.2.1 v.2.2.2.2.2.1) v.2.2.2.2.2.2.1 (ae.mk v.2.2.2.2.2.2.2.1 v.2.2.2.2.2.2.2.2.1) (ae.mk v.2.2.2.2.2.2.2.2.2.1 v.2.2.2.2.2.2.2.2.2.2.1) (ae.mk v.2.2.2.2.2.2.2.2.2.2.2.1 v.2.2.2.2.2.2.2.2.2.2.2.2.1) (ae.mk v.2.2.2.2.2.2.2.2.2.2.2.2.2.1 v.2.2.2.2.2.2.2.2.2.2.2.2.2.2.1) v.2.2.2.2.2.2.2.2.2.2.2.2.2.2.2.1 v.2.2.2.2.2.2.2.2.2.2.2.2.2.2.2.2.1 v.2.2.2.2.2.2.2.2.2.2.2.2.2.2.2.2.2.1 v.2.2.2.2.2.2.2.2.2.2.2.2.2.2.2.2.2.2.1)
 | .lE,v=>(bh.mk v.1 (an.mk v.2.1 v.2.2.1 v.2.2.2.1))
 | .Config,v=>(bp.mk v.1)
 | .Src,v=>(dQ.mk v.1 v.2.1)
 | .dV,v=>(aB.mk (af.mk v.1 v.2.1 v.2.2.1 (an.mk v.2.2.2.1 v.2.2.2.2.1 v.2.2.2.2.2.1) v.2.2.2.2.2.2.1 (ae.mk v.2.2.2.2.2.2.2.1 v.2.2.2.2.2.2.2.2.1) (ae.mk v.2.2.2.2.2.2.2.2.2.1 v.2.2.2.2.2.2.2.2.2.2.1) (ae.mk v.2.2.2.2.2.2.2.2.2.2.2.1 v.2.2.2.2.2.2.2.2.2.2.2.2.1) (ae.mk v.2.2.2.2.2.2.2.2.2.2.2.2.2.1 v.2.2.2.2.2.2.2.2.2.2.2.2.2.2.1) v.2.2.2.2.2.2.2.2.2.2.2.2.2.2.2.1 v.2.2.2.2.2.2.2.2.2.2.2.2.2.2.2.2.1 v.2.2.2.2.2.2.2.2.2.2.2.2.2.2.2.2.2.1 v.2.2.2.2.2.2.2.2.2.2.2.2.2.2.2.2.2.2.1))
 | .He,v=>(Da.mk v.1 v.2.1 v.2.2.1 (ae.mk v.2.2.2.1 v.2.2.2.2.1) (ae.mk v.2.2.2.2.2.1 v.2.2.2.2.2.2.1) (ae.mk v.2.2.2.2.2.2.2.1 v.2.2.2.2.2.2.2.2.1) (ae.mk v.2.2.2.2.2.2.2.2.2.1 v.2.2.2.2.2.2.2.2.2.2.1))
 | .ic,v=>(bu.mk (ai.mk v.1 v.2.1 v.2.2.1 (an.mk v.2.2.2.1 v.2.2.2.2.1 v.2.2.2.2.2.1) v.2.2.2.2.2.2.1 (ae.mk v.2.2.2.2.2.2.2.1 v.2.2.2.2.2.2.2.2.1) (ae.mk v.2.2.2.2.2.2.2.2.2.1 v.2.2.2.2.2.2.2.2.2.2.1) (ae.mk v.2.2.2.2.2.2.2.2.2.2.2.1 v.2.2.2.2.2.2.2.2.2.2.2.2.1) v.2.2.2.2.2.2.2.2.2.2.2.2.2.1 v.2.2.2.2.2.2.2.2.2.2.2.2.2.2.1))
 | .Seen,v=>(fO.mk v.1 (bp.mk v.2.1) v.2.2.1)
 | .lV,v=>(nW.mk (ae.mk v.1 v.2.1) (ae.mk v.2.2.1 v.2.2.2.1))
 | .qc,v=>(um.mk v.1 v.2.1)
mutual
def np:an->List PV
 |⟨a0,a1,a2⟩=>[.int .i64 a0,.sl (a1.map (fun x=>[.int .i64 x])),.sl (u5 a2)]
def u5:List an->List (List PV)
 |[]=>[]
 |x::l=>np x::u5 l
end
theorem Bo:∀(l:List an),u5 l=l.map np
 |[]=>by rw[u5];rfl
 |x::l=>by rw[u5,Bo l];rfl
def TM(v:ae):List PV:=[.int .i64 v.aj,.str v.Value]
def yU(v:ai):List PV:=[.int .i64 v.au,.int .i64 v.bs,.int .i64 v.aL,.int .i64 v.ab.aT,.sl (v.ab.bq.map (fun x=>[.int .i64 x])),.sl (v.ab.aS.map np),.int .i64 v.bx,.int .i64 v.aa.aj,.str v.aa.Value,.int .i64 v.ak.aj,.str v.ak.Value,.int .i64 v.aw.aj,.str v.aw.Value,.int .i64 v.aF,.int .i64 v.aM]
def RM(v:af):List PV:=[.int .i64 v.au,.int .i64 v.bs,.int .i64 v.aL,.int .i64 v.ab.aT,.sl (v.ab.bq.map (fun x=>[.int .i64 x])),.sl (v.ab.aS.map np),.int .i64 v.aA,.int .i64 v.aa.aj,.str v.aa.Value,.int .i64 v.ak.aj,.str v.ak.Value,.int .i64 v.aw.aj,.str v.aw.Value,.int .i64 v.av.aj,.str v.av.Value,.int .i64 v.aF,.int .i64 v.aM,.str v.bf,.sl (v.aC.map yU)]
def Cq(v:bh):List PV:=[.bool v.dx,.int .i64 v.ab.aT,.sl (v.ab.bq.map (fun x=>[.int .i64 x])),.sl (v.ab.aS.map np)]
def TL(v:bp):List PV:=[.sl (v.aX.map Cq)]
def YR(v:dQ):List PV:=[.sl (v.L.map (fun x=>[.int .i64 x])),.int .i64 v.At]
def TJ(v:aB):List PV:=[.int .i64 v.ao.au,.int .i64 v.ao.bs,.int .i64 v.ao.aL,.int .i64 v.ao.ab.aT,.sl (v.ao.ab.bq.map (fun x=>[.int .i64 x])),.sl (v.ao.ab.aS.map np),.int .i64 v.ao.aA,.int .i64 v.ao.aa.aj,.str v.ao.aa.Value,.int .i64 v.ao.ak.aj,.str v.ao.ak.Value,.int .i64 v.ao.aw.aj,.str v.ao.aw.Value,.int .i64 v.ao.av.aj,.str v.ao.av.Value,.int .i64 v.ao.aF,.int .i64 v.ao.aM,.str v.ao.bf,.sl (v.ao.aC.map yU)]
def YS(v:Da):List PV:=[.int .i64 v.aK,.int .i64 v.low,.int .i64 v.bG,.int .i64 v.aN.aj,.str v.aN.Value,.int .i64 v.dX.aj,.str v.dX.Value,.int .i64 v.bM.aj,.str v.bM.Value,.int .i64 v.dE.aj,.str v.dE.Value]
def Ms(v:bu):List PV:=[.int .i64 v.ax.au,.int .i64 v.ax.bs,.int .i64 v.ax.aL,.int .i64 v.ax.ab.aT,.sl (v.ax.ab.bq.map (fun x=>[.int .i64 x])),.sl (v.ax.ab.aS.map np),.int .i64 v.ax.bx,.int .i64 v.ax.aa.aj,.str v.ax.aa.Value,.int .i64 v.ax.ak.aj,.str v.ax.ak.Value,.int .i64 v.ax.aw.aj,.str v.ax.aw.Value,.int .i64 v.ax.aF,.int .i64 v.ax.aM]
def WN(v:fO):List PV:=[.int .i64 v.au,.sl (v.View.aX.map Cq),.sl (v.aC.map Ms)]
def Lm(v:nW):List PV:=[.int .i64 v.c0.aj,.str v.c0.Value,.int .i64 v.c1.aj,.str v.c1.Value]
def RO(v:um):List PV:=[.int .i64 v.c0,.int .i64 v.c1]
def kZ.pv:(n:kZ)->n.den->List PV
 | .ab,v=>np v
 | .aa,v=>TM v
 | .ax,v=>yU v
 | .ao,v=>RM v
 | .lE,v=>Cq v
 | .Config,v=>TL v
 | .Src,v=>YR v
 | .dV,v=>TJ v
 | .He,v=>YS v
 | .ic,v=>Ms v
 | .Seen,v=>WN v
 | .lV,v=>Lm v
 | .qc,v=>RO v
def Ty.isAgg:Ty->Bool
 | .st _=>true
 |_=>false
def XW(t:Ty)(cs:List PV):PV:=match t.isAgg with|true=> .agg cs|false=>cs.headD .any
def Ty.pv:(t:Ty)->t.den->List PV
 | .i k,n=>[.int k n]
 | .bool,b=>[.bool b]
 | .str,s=>[.str s]
 | .sl t,(xs:List t.den)=>[.sl (xs.map (Ty.pv t))]
 | .mp a b,(xs:List (a.den×b.den))=>[.gO (xs.map fun p=>XW a (Ty.pv a p.1)) (xs.map fun p=>XW b (Ty.pv b p.2))]
 | .st n,v=>n.pv v
def vg:(ls:List Ty)->zr ls->List PV
 |[],_=>[]
 |t::l,v=>t.pv v.1++vg l v.2
theorem kZ.Jl:∀(n:kZ) (v:n.den),n.pv v=vg n.leaves (n.toL v)
 | .ab,v=>by cases v;simp only[kZ.pv,np,Bo];rfl
 | .aa,v=>rfl
 | .ax,v=>rfl
 | .ao,v=>rfl
 | .lE,v=>rfl
 | .Config,v=>rfl
 | .Src,v=>rfl
 | .dV,v=>rfl
 | .He,v=>rfl
 | .ic,v=>rfl
 | .Seen,v=>rfl
 | .lV,v=>rfl
 | .qc,v=>rfl
def Ty.leaf:Ty->Bool
 | .st _=>false
 |_=>true
theorem kZ.FJ:∀(n:kZ),n.leaves.all Ty.leaf=true
 | .ab=>rfl
 | .aa=>rfl
 | .ax=>rfl
 | .ao=>rfl
 | .lE=>rfl
 | .Config=>rfl
 | .Src=>rfl
 | .dV=>rfl
 | .He=>rfl
 | .ic=>rfl
 | .Seen=>rfl
 | .lV=>rfl
 | .qc=>rfl
theorem kZ.abw:∀(n:kZ) (v:zr n.leaves),n.toL (n.Yb v)=v
 | .ab,v=>rfl
 | .aa,v=>rfl
 | .ax,v=>rfl
 | .ao,v=>rfl
 | .lE,v=>rfl
 | .Config,v=>rfl
 | .Src,v=>rfl
 | .dV,v=>rfl
 | .He,v=>rfl
 | .ic,v=>rfl
 | .Seen,v=>rfl
 | .lV,v=>rfl
 | .qc,v=>rfl
def Ty.TZ:Ty->Bool
 | .sl _=>false
 | .mp _ _=>false
 |_=>true
@[reducible] def U:TU where
 Ty:=Ty
 SU:=Ty.SU
 den:=Ty.den
 pv:=Ty.pv
 size:=fun t=>match t with| .st n=>n.leaves.length|_=>1
 agg:=Ty.isAgg
 plain:=fun t=>match t with| .st n=>n.leaves.all Ty.TZ|t=>t.TZ
def CE:(t:Ty)->t.den->KV U
 | .i k,n=> .int k n
 | .bool,b=> .bool b
 | .str,s=> .str s
 | .sl t,(xs:List t.den)=> .sl t xs
 | .mp a b,(xs:List (a.den×b.den))=> .gO a b xs
 | .st _,_=> .any
def FI:(ls:List Ty)->zr ls->List (KV U)
 |[],_=>[]
 |t::l,v=>CE t v.1::FI l v.2
def aaV:(t:Ty)->t.den->List (KV U)
 | .st n,v=>FI n.leaves (n.toL v)
 | .i k,v=>[CE (.i k) v]
 | .bool,v=>[CE .bool v]
 | .str,v=>[CE .str v]
 | .sl t,v=>[CE (.sl t) v]
 | .mp a b,v=>[CE (.mp a b) v]
def wv(lk:Lk U):(t:Ty)->KV U->Option t.den
 | .i k,x=>Xv k x
 | .bool,x=>E8 x
 | .str,x=>Xt x
 | .sl t,x=>PT (U:=U) lk t x
 | .mp a b,x=>Xu (U:=U) a b x
 | .st _,_=>none
def xf(lk:Lk U):(ls:List Ty)->List (KV U)->Option (zr ls)
 |[],cs=>match cs with|[]=>some ()|_=>none
 |t::l,cs=>match cs with
  |c::cs=>(match wv lk t c with
   |some v=>(match xf lk l cs with|some vs=>some (v,vs)|none=>none)
   |none=>none)
  |[]=>none
def Il{α:Type}(f:KV U->Option α):List (KV U)->Option α
 |[x]=>f x
 |_=>none
def ac9:(t:Ty)->Lk U->List (KV U)->Option t.den
 | .st n,lk,cs=>(match xf lk n.leaves cs with|some v=>some (n.Yb v)|none=>none)
 | .i k,lk,cs=>Il (wv lk (.i k)) cs
 | .bool,lk,cs=>Il (wv lk .bool) cs
 | .str,lk,cs=>Il (wv lk .str) cs
 | .sl t,lk,cs=>Il (wv lk (.sl t)) cs
 | .mp a b,lk,cs=>Il (wv lk (.mp a b)) cs
theorem Xd:∀(t:Ty) (v:t.den),t.leaf=true->[(CE t v).pv]=t.pv v
 | .i k,v,_=>rfl
 | .bool,v,_=>rfl
 | .str,v,_=>rfl
 | .sl t,v,_=>rfl
 | .mp a b,v,_=>rfl
 | .st _,_,h=>by cases h
theorem JL:∀(ls:List Ty) (v:zr ls),ls.all Ty.leaf=true->(FI ls v).map KV.pv=vg ls v
 |[],_,_=>rfl
 |t::l,v,h=>by
  rw[List.all_cons,Qm]at h;rw[FI,vg,QD,JL l v.2 h.2,<-Xd t v.1 h.1];rfl
theorem sf{lk:Lk U}:∀{t:Ty} {x:KV U} {v:t.den},wv lk t x=some v->gz lk [x] (t.pv v)
 | .i k,x,v,h=> .cons (ZJ h) .nil
 | .bool,x,v,h=> .cons (ZL h) .nil
 | .str,x,v,h=> .cons (ZG h) .nil
 | .sl t,x,v,h=> .cons (ZI (U:=U) h) .nil
 | .mp a b,x,v,h=> .cons (ZH (U:=U) h) .nil
 | .st _,_,_,h=>by cases h
theorem gz.cu{lk:Lk U}{x:KV U}{ys:List PV}{xs:List (KV U)}{zs:List PV}(h:gz lk [x] ys)(k:gz lk xs zs):gz lk (x::xs) (ys++zs):=by
 cases h with
 |cons h1 h2=>cases h2 with|nil=>exact .cons h1 k
theorem E7{lk:Lk U}:∀{ls:List Ty} {cs:List (KV U)} {v:zr ls},xf lk ls cs=some v->gz lk cs (vg ls v)
 |[],[],_,_=> .nil
 |[],_::_,_,h=>by cases h
 |_::_,[],_,h=>by cases h
 |t::l,c::cs,v,h=>by
  rw[xf]at h;split at h
  ·rename_i v1 h1;split at h
   ·rename_i vs h2;injection h with h
    subst h;exact(sf h1).cu (E7 h2)
   ·cases h
  ·cases h
theorem BN{α:Type}{f:KV U->Option α}{cs:List (KV U)}{v:α}(h:Il f cs=some v):∃x,cs=[x]/\f x=some v:=by
 unfold Il at h;split at h
 ·exact⟨_,rfl,h⟩
 ·cases h
theorem U7:∀(ls:List Ty) (v:zr ls),ls.all Ty.leaf=true->(vg ls v).length=ls.length
 |[],_,_=>rfl
 |t::l,v,h=>by
  rw[List.all_cons,Qm]at h
  have:(t.pv v.1).length=1:=by
   cases t with
   |st n=>cases h.1
   |_=>rfl
  rw[vg,QB,U7 l v.2 h.2,this,QE,Nat.add_comm]
theorem nv:∀(t:Ty) (v:t.den),t.leaf=true->∀y∈t.pv v,y.fS=true/\(t.TZ=true->y.plain=true)
 | .i k,v,_,y,h=>by simp only[Ty.pv,List.mem_singleton]at h;subst h;exact⟨rfl,fun _=>rfl⟩
 | .bool,v,_,y,h=>by simp only[Ty.pv,List.mem_singleton]at h;subst h;exact⟨rfl,fun _=>rfl⟩
 | .str,v,_,y,h=>by simp only[Ty.pv,List.mem_singleton]at h;subst h;exact⟨rfl,fun _=>rfl⟩
 | .sl t,v,_,y,h=>by simp only[Ty.pv,List.mem_singleton]at h;subst h;exact⟨rfl,fun h=>by cases h⟩
 | .mp a b,v,_,y,h=>by simp only[Ty.pv,List.mem_singleton]at h;subst h;exact⟨rfl,fun h=>by cases h⟩
 | .st _,_,h,_,_=>by cases h
theorem AD:∀(ls:List Ty) (v:zr ls),ls.all Ty.leaf=true->∀y∈vg ls v,y.fS=true/\(ls.all Ty.TZ=true->y.plain=true)
 |[],_,_,y,h=>by cases h
 |t::l,v,h,y,hy=>by
  rw[List.all_cons,Qm]at h;rw[vg,Qz]at hy;rcases hy with hy|hy
  ·obtain⟨h1,h2⟩:=nv t v.1 h.1 y hy;exact⟨h1,fun hp=>by rw[List.all_cons,Qm]at hp;exact h2 hp.1⟩
  ·obtain⟨h1,h2⟩:=AD l v.2 h.2 y hy;exact⟨h1,fun hp=>by rw[List.all_cons,Qm]at hp;exact h2 hp.2⟩
def CF:kZ->Option (IntKind×IntKind)
 | .qc=>some (.i64,.i64)
 |_=>none
theorem FK:∀(n:kZ) (k l:IntKind),CF n=some (k,l)->∀v,∃a b,aaV (.st n) v=[.int k a,.int l b]
 | .qc,_,_,h=>by injection h with h;injection h with h1 h2;subst h1 h2;exact fun v=>⟨_,_,rfl⟩
 | .ab,_,_,h=>by cases h
 | .aa,_,_,h=>by cases h
 | .ax,_,_,h=>by cases h
 | .ao,_,_,h=>by cases h
 | .lE,_,_,h=>by cases h
 | .Config,_,_,h=>by cases h
 | .Src,_,_,h=>by cases h
 | .dV,_,_,h=>by cases h
 | .He,_,_,h=>by cases h
 | .ic,_,_,h=>by cases h
 | .Seen,_,_,h=>by cases h
 | .lV,_,_,h=>by cases h
def abv:List (Nat×Ty):=[(3,(Ty.i .i64)),(4,Ty.bool),(9,Ty.str),(27,(Ty.st .ab)),(29,(Ty.st .aa)),(32,(Ty.st .ao)),(48,(Ty.st .ax)),(88,(Ty.st .lE)),(161,(Ty.st .ic))]
def UW(n:Nat):List (Nat×Ty)->Option Ty
 |[]=>none
 |(k,t)::l=>(match Nat.beq k n with|true=>some t|false=>UW n l)
@[reducible] def K:TK U where
 bY:=aaV
 dec:=ac9
 Ol:=fun n=>UW n abv
 oD:=fun t v=>by
  cases t with
  |st n=>exact(JL _ _ n.FJ).trans (n.Jl v).symm
  |_=>rfl
 kO:=fun t lk cs v h=>by
  cases t with
  |st n=>
   change (match xf lk n.leaves cs with|some v=>some (n.Yb v)|none=>none)=some v at h
   split at h
   ·rename_i u hu;injection h with h
    subst h;have:=E7 hu
    change gz lk cs (n.pv (n.Yb u))
    rw[n.Jl,n.abw];exact this
   ·cases h
  |i k=>obtain⟨x,rfl,hx⟩:=BN h;exact sf hx
  |bool=>obtain⟨x,rfl,hx⟩:=BN h;exact sf hx
  |str=>obtain⟨x,rfl,hx⟩:=BN h;exact sf hx
  |sl t=>obtain⟨x,rfl,hx⟩:=BN h;exact sf hx
  |mp a b=>obtain⟨x,rfl,hx⟩:=BN h;exact sf hx
 len:=fun t v=>by
  cases t with
  |st n=>exact(congrArg List.length (n.Jl v)).trans (U7 _ _ n.FJ)
  |_=>rfl
 fS:=fun t v y hy=>by
  cases t with
  |st n=>exact(AD _ (n.toL v) n.FJ y (Eq.mp (congrArg (y∈·) (n.Jl v)) hy)).1
  |i k=>exact(nv (.i k) v rfl y hy).1
  |bool=>exact(nv .bool v rfl y hy).1
  |str=>exact(nv .str v rfl y hy).1
  |sl t=>exact(nv (.sl t) v rfl y hy).1
  |mp a b=>exact(nv (.mp a b) v rfl y hy).1
 one:=fun t h=>by
  cases t with
  |st n=>cases h
  |_=>rfl
 plain:=fun t h v y hy=>by
  cases t with
  |st n=>exact(AD _ (n.toL v) n.FJ y (Eq.mp (congrArg (y∈·) (n.Jl v)) hy)).2 h
  |i k=>exact(nv (.i k) v rfl y hy).2 rfl
  |bool=>exact(nv .bool v rfl y hy).2 rfl
  |str=>exact(nv .str v rfl y hy).2 rfl
  |sl t=>cases h
  |mp a b=>cases h
 CF:=fun t=>match t with| .st n=>CF n|_=>none
 FK:=fun t k l h=>by
  cases t with
  |st n=>exact⟨rfl,FK n k l h⟩
  |_=>cases h
end Go.TQ
end
noncomputable section
namespace Go.TQ
open Go.RowKit
theorem tx{P:Program}(w:World)(dT sT ty elem:TypeId)(g o dLen dCap:Nat)(a:Addr)(sLen sCap:Nat)(cur:Array Value)(t:TypeId)(cs:List Value)(size n:Nat)
  (hu:P.underlying dT=some (.slice elem)) (hs:(P.info? elem).map (·.size)=some size)
  (hg:w.heap[g]?=some (.cells cur t (0,0))) (hn:n=Nat.min sLen dLen) (hcl:cs.length=n*size)
  (hsrc:∀(j:Nat) (v:Value),cs[j]?=some v->w.cell? (a.add j)=some v) (hfit:o+cs.length<=cur.size) (h1:∀v∈cs,v.oneCell'=true):
  (Builtin.copy_ #[dT,sT] ty #[.slice (some ⟨g,o,none⟩) dLen dCap,.slice (some a) sLen sCap]).run P w=
   .ok (goInt n) (w.setRow g (cur.toList.take o++cs++cur.toList.drop (o+cs.length)).toArray):=by
 have hl:=run_loadCells_list (P:=P) w a cs hsrc;have hst:=run_storeCells_at P g o t cs 0 cur w hg (by simpa using hfit) h1
 rw[hcl]at hl
 cases hq:P.info? elem with
 |none=>simp[hq]at hs
 |some i=>
  have hi:i.size=size:=by simpa[hq]using hs
  simp[Builtin.copy_,run_underlying hu,Builtin.lenOf,Builtin.firstCells,sizeOf,typeInfo,hq,hi,<-hn,hl,hst]
theorem R5{w:World}{a:Addr}{v:Value}(h:w.cell? a=some v):∃t n,w.shape? a.block=some (t,n+1):=by
 unfold World.cell? at h;unfold World.shape?;split at h
 ·rename_i c t fr hc;split at h
  ·cases h
  ·have hlt:=(Array.getElem?_eq_some_iff.1 h).1;exact⟨t,c.size - 1,by simp only[Qf,Prod.mk.injEq,true_and];omega⟩
 ·cases h
theorem HN{P:Program}(w:World)(tS tR e:TypeId)(ht:P.underlying tS=some (.slice e))(size:Nat)(hz:∀w,(Go.sizeOf e).run P w= .ok size w)
  (a b:Addr) (la ca lb cb:Nat) (hne:a.block≠b.block) {v:Value} (ha:w.cell? a=some v) {cur:Array Value} {t:TypeId} (hb:w.heap[b.block]?=some (.cells cur t (0,0))) (h0:cur.size≠0):
  (Extern.SlicesOverlaps.overlaps #[tS,tS] #[tR] #[.slice (some a) la ca,.slice (some b) lb cb]).run P w= .ok (.bool false) w:=by
 obtain⟨tA,kA,hsa⟩:=R5 ha;have hsb:w.shape? b.block=some (t,cur.size):=by simp[World.shape?,hb]
 have hfb:w.frozen? b=false:=by simp[World.frozen?,hb]
 have hfe:w.frozen? {block:=b.block,off:=cur.size}=false:=by simp[World.frozen?,hb]
 have hnb:(a.block !=b.block)=true:=by simpa using hne
 have hnb':(a.block==b.block)=false:=by simpa using hne
 obtain⟨kB,hkB⟩:∃kB,cur.size=kB+1:=⟨cur.size - 1,by omega⟩
 rw[hkB]at hsb hfe
 change Sem.run P (α:=Value) (do
  let some t:=(#[tS,tS]:Array TypeId)[0]?|stuck "slices.overlaps: no parameter types"
  let .slice elem <-underlying t|stuck "slices.overlaps: slice type expected"
  let size <-sizeOf elem
  match(some a:Option Addr),(some b:Option Addr)with
  |some a,some b=>
   if la=0\/lb=0\/size=0 then pure (Value.bool false)
   else if a.block !=b.block&&(<-frozen a)&&(<-frozen b)then unsupported .addressObserved
   else do
    if a.block !=b.block then do
     noView a;noView b
     if<-mayBeOne a b then return Value.bool ((<-choose (.extern "sameAddr.stringBytes" 2))==1)
    pure (Value.bool (a.block==b.block&&a.off<b.off+lb*size&&b.off<a.off+la*size))
  |_,_=>pure (Value.bool false)) w=_
 by_cases h0:la=0\/lb=0\/size=0
 ·simp[run_underlying ht,hz,h0]
 ·cases hfa:w.frozen? a<;>cases hfk:w.frozen? {block:=a.block,off:=kA+1}<;>
   simp[run_underlying ht,hz,h0,hnb,hnb',frozen,noView,viewAt,mayBeOne,stringish,shape,Sem.run,hsa,hsb,hfa,hfk,hfb,hfe]
theorem V8(a:Addr):a.add 0=a:=by
 cases a with
 |mk b o s=>unfold Addr.add;split<;>simp_all
theorem C9(a:Addr)(n:Nat):(a.add n).block=a.block:=by unfold Addr.add;split<;>rfl
def ou{α:Type}(l:List α)(o:Nat)(c:List α):List α:=l.take o++c++l.drop (o+c.length)
theorem Cr{α:Type}{l:List α}{o:Nat}{c:List α}(h:o+c.length<=l.length):(ou l o c).length=l.length:=by simp[ou];omega
theorem TO{α:Type}{l us ys:List α}{a:Nat}(h:a+us.length+ys.length<=l.length):ou (ou l a us) (a+us.length) ys=l.take a++us++ys++l.drop (a+us.length+ys.length):=by
 have h1:(l.take a++us).length=a+us.length:=by simp;omega
 have h2:(ou l a us).take (a+us.length)=l.take a++us:=by
  rw[ou,List.take_append_of_le_length (by omega),List.take_of_length_le (by omega)]
 have h3:(ou l a us).drop (a+us.length+ys.length)=l.drop (a+us.length+ys.length):=by
  rw[ou,<-List.drop_drop,<-h1,List.drop_left,List.drop_drop,h1]
 rw[ou,h2,h3]
theorem RP{α:Type}{l us ys:List α}{a:Nat}(h:a+us.length+ys.length<=l.length):ou (ou l (a+us.length) ys) a us=l.take a++us++ys++l.drop (a+us.length+ys.length):=by
 have h1:(l.take (a+us.length)).length=a+us.length:=by simp;omega
 have h2:(ou l (a+us.length) ys).take a=l.take a:=by
  rw[ou,QL,List.take_append_of_le_length (by omega),List.take_take,Nat.min_eq_left (by omega)]
 have h3:(ou l (a+us.length) ys).drop (a+us.length)=ys++l.drop (a+us.length+ys.length):=by
  conv=>lhs;rw[ou,QL]
  exact List.drop_left' h1
 rw[ou,h2,h3,QL,QL,QL]
theorem sX(w:World)(g:Nat)(cs:Array Value){b:Nat}(h:b≠g):(w.setRow g cs).heap[b]?=w.heap[b]?:=by
 simp only[World.setRow,Array.getElem?_modify];rw[Qs (fun e=>h e.symm)]
theorem Mj(w:World)(g:Nat)(cs:Array Value):Fr (some g) w (w.setRow g cs):=⟨rfl,rfl,rfl,by simp[World.setRow],fun b _ hb=>sX w g cs (fun e=>hb (by rw[e])),QI _⟩
theorem Fr.ab2(w:World)(rb:Option Nat):Fr rb w w.drew:=⟨rfl,rfl,rfl,QI _,fun _ _ _=>rfl,Nat.le_succ _⟩
theorem Fr.trans'{rb:Option Nat}{a b c:World}(h:Fr rb a b)(k:Fr rb b c):Fr rb a c:=⟨k.os.trans h.os,k.tape.trans h.tape,k.output.trans h.output,QK h.size k.size,fun i hi hne=>(k.block i (QJ hi h.size) hne).trans (h.block i hi hne),QK h.drawn k.drawn⟩
theorem Hl{w w':World}{v u:Value}{X:Nat->Prop}(hf:Fr (bS v) w w')(hu:∀b,bS u=some b->bS v=some b\/w.heap.size<=b):dB w w' (Mv v X) (Mv u X):=by
 have key:∀b,b<w.heap.size->¬Mv v X b->w'.heap[b]?=w.heap[b]?/\¬Mv u X b:=fun b hlt hM=>⟨hf.block b hlt fun h=>hM (.inl h),by
  rintro(h|h)
  ·rcases hu _ h with h|h
   ·exact hM (.inl h)
   ·omega
  ·exact hM (.inr h)⟩
 refine⟨fun a x hc hM=> ?_,fun b es ck hb hM=> ?_⟩
 ·have hlt:a.block<w.heap.size:=by
   by_cases h:a.block<w.heap.size
   ·exact h
   ·have:w.heap[a.block]?=none:=by rw[Array.getElem?_eq_none_iff];omega
    simp[World.cell?,this]at hc
  obtain⟨h1,h2⟩:=key _ hlt hM;exact⟨(World.cell?_of_block h1).trans hc,h2⟩
 ·obtain⟨h1,h2⟩:=key b (Array.getElem?_eq_some_iff.1 hb).1 hM;exact⟨h1.trans hb,h2⟩
theorem OH{w:World}{M:Nat->Prop}{es:List (List PV)}{xs:List Value}(h:aY w M cU es.flatten xs)(h1:∀u∈es,u.all PV.one=true):∀x∈xs,x.oneCell'=true:=by
 intro x hx;obtain⟨q,hq,rfl⟩:=List.mem_iff_getElem.1 hx;have hl:q<es.flatten.length:=by rw[<-h.1];exact hq
 obtain⟨el,hel,hmem⟩:=List.mem_flatten.1 (Q0 hl);exact((h.2 q _ _ (Qv hl) (Qv hq)).one (QH.1 (h1 el hel) _ hmem)).1
structure XR (P:Program) (f S E I B ov k bytes:Nat):Prop where
 aaC:0<k
 hS:P.underlying S=some (.slice E)
 hI:P.underlying I=some (.int .i64)
 aaF:∃(i:TypeInfo) (z:Value),P.info? E=some i/\i.zero=some z/\z.cells.size=k/\i.size=k/\i.bytes=bytes
 AA:∀(x:Array Value) (w:World),(Extern.SlicesOverlaps.overlaps #[S,S] #[B] x).run P w= .ok (.bool false) w->(callFunc ov x).run P w= .ok (.value (.bool false)) w
 zZ:∀(g n c i:Nat),i<=n->n<=c->c<=9223372036854775807->∀(u:Option Addr) (vc:Nat) (w:World),
  Calls P f #[.slice (some ⟨g,0,none⟩) n c,.int .i64 i,.slice u 0 vc] w fun e w'=>e= .returned (.slice (some ⟨g,0,none⟩) n c)/\w'=w
 Cz:∀(u:Option Addr) (vc:Nat) (w:World),Calls P f #[.slice none 0 0,.int .i64 0,.slice u 0 vc] w fun e w'=>e= .returned (.slice none 0 0)/\w'=w
 Kz:∀(g n c:Nat),n<=c->c<=9223372036854775807->∀(ad:Addr) (m vc:Nat),0<m->∀(w w1:World) (v1:Value),
  (∀ty,(Builtin.append_ #[S,S] ty #[.slice (some ⟨g,0,none⟩) n c,.slice (some ad) m vc]).run P w= .ok v1 w1)->
  Calls P f #[.slice (some ⟨g,0,none⟩) n c,.int .i64 n,.slice (some ad) m vc] w fun e w'=>e= .returned v1/\w'=w1
 yk:∀(ad:Addr) (m vc:Nat),0<m->∀(w w1:World) (v1:Value),
  (∀ty,(Builtin.append_ #[S,S] ty #[.slice none 0 0,.slice (some ad) m vc]).run P w= .ok v1 w1)->
  Calls P f #[.slice none 0 0,.int .i64 0,.slice (some ad) m vc] w fun e w'=>e= .returned v1/\w'=w1
 shift:∀(g n c i:Nat),i<n->c<=9223372036854775807->∀(ad:Addr) (m vc:Nat),0<m->n+m<=c->∀(w w1 w2:World),
  (∀lb cb,(callFunc ov #[.slice (some ad) m vc,.slice (some ⟨g,(i+m)*k,none⟩) lb cb]).run P w= .ok (.value (.bool false)) w)->
  (∀ty dc sc,(Builtin.copy_ #[S,S] ty #[.slice (some ⟨g,(i+m)*k,none⟩) (n+m - (i+m)) dc,.slice (some ⟨g,i*k,none⟩) (n+m - i) sc]).run P w.drew= .ok (goInt (n - i:Nat)) w1)->
  (∀ty dc,(Builtin.copy_ #[S,S] ty #[.slice (some ⟨g,i*k,none⟩) (n+m - i) dc,.slice (some ad) m vc]).run P w1= .ok (goInt m) w2)->
  Calls P f #[.slice (some ⟨g,0,none⟩) n c,.int .i64 i,.slice (some ad) m vc] w fun e w'=>e= .returned (.slice (some ⟨g,0,none⟩) (n+m) c)/\w'=w2
 grow:∀(g n c i:Nat),i<n->n<=c->c<=9223372036854775807->∀(ad:Addr) (m vc:Nat),0<m->c<n+m->∀(N G:Nat),n+m<=G->G<=9223372036854775807->∀(w w1 w2 w3:World),
  (∀ty,(Builtin.append_ #[S,I] ty #[.slice (some ⟨g,0,none⟩) i c,.int .i64 ((n:Int)+(m:Int) - (i:Int))]).run P w= .ok (.slice (some ⟨N,0,none⟩) (n+m) G) w1)->
  (∀ty dc,(Builtin.copy_ #[S,S] ty #[.slice (some ⟨N,i*k,none⟩) (n+m - i) dc,.slice (some ad) m vc]).run P w1= .ok (goInt m) w2)->
  (∀ty dc sc,(Builtin.copy_ #[S,S] ty #[.slice (some ⟨N,(i+m)*k,none⟩) (n+m - (i+m)) dc,.slice (some ⟨g,i*k,none⟩) (n - i) sc]).run P w2.drew= .ok (goInt (n - i:Nat)) w3)->
  Calls P f #[.slice (some ⟨g,0,none⟩) n c,.int .i64 i,.slice (some ad) m vc] w fun e w'=>e= .returned (.slice (some ⟨N,0,none⟩) (n+m) G)/\w'=w3
theorem Zj{P:Program}{E k bytes:Nat}(h:(P.info? E).map (fun i=>(i.zero.map (·.cells.size),i.size,i.bytes))=some (some k,k,bytes)):∃(i:TypeInfo) (z:Value),P.info? E=some i/\i.zero=some z/\z.cells.size=k/\i.size=k/\i.bytes=bytes:=by
 rw[Qb]at h;obtain⟨i,h1,h2⟩:=h;injection h2 with h2 h3
 injection h3 with h3 h4
 rw[Qb]at h2;obtain⟨z,h5,h6⟩:=h2;exact⟨i,z,h1,h5,h6,h3,h4⟩
theorem Zi{P:Program}{f S E I B ov k bytes:Nat}(H:XR P f S E I B ov k bytes){es vs:List (List PV)}{i:Nat}(hi:i<=es.length)(h1e:∀u∈es,u.all PV.one=true)(hvs:∀u∈vs,u.length=k/\u.all PV.one=true)
  (hmax:es.length+vs.length<=maxLen) (hby:(es.length+vs.length)*bytes<=140737488355328):Iw P f E k es [.int .i64 i,.sl vs] (es.take i++vs++es.drop i):=by
 have hk0:=H.aaC;intro w X hX v args hvX ⟨xs,hown,hke,hr⟩ hargs;obtain⟨a1,args,rfl,ha1,hargs⟩:=hargs.cons_inv;obtain⟨a2,args,rfl,ha2,hargs⟩:=hargs.cons_inv;obtain rfl:=hargs.l9;obtain rfl:=ha1.fb;obtain⟨inf,z,hi1,hi2,hi3,hi4,hi5⟩:=H.aaF;have hsz:(P.info? E).map (·.size)=some k:=by rw[hi1];simp[hi4]
 have hmem:∀u∈es.take i++vs++es.drop i,u.length=k:=by
  intro u hu;rw[Qz,Qz]at hu;rcases hu with(hu|hu)|hu
  ·exact hke u (Q1 hu)
  ·exact(hvs u hu).1
  ·exact hke u (Q2 hu)
 have same:vs=[]->es.take i++vs++es.drop i=es:=fun h=>by rw[h];simp
 by_cases hm0:vs=[]
 ·rw[same hm0]
  have hz:∃u vc,a2= .slice u 0 vc:=by
   subst hm0;rcases ha2.A9 with⟨h,_⟩|⟨ad,c,_,_,h,_⟩
   ·exact⟨_,_,h⟩
   ·exact⟨_,_,h⟩
  obtain⟨u,vc,rfl⟩:=hz
  have post:∀(e:Ending) (w':World),e= .returned v/\w'=w->∃u,e= .returned u/\tI w' (Mv u X) E k u es/\(∀b,bS u=some b->bS v=some b\/w.heap.size<=b)/\Fr (bS v) w w':=by
   rintro e w' ⟨rfl,rfl⟩;exact⟨v,rfl,⟨xs,hown,hke,hr⟩,fun b hb=> .inl hb,Fr.refl _ _⟩
  rcases hown.2 with⟨rfl,h0⟩|⟨g,cap,cur,rfl,_,hg,hnc,hcm,hcs,htk⟩
  ·obtain rfl:i=0:=by omega
   exact(H.Cz u vc w).mono fun e w' h=>post e w' h
  ·exact(H.zZ g es.length cap i hi hnc (by simp only[maxLen]at hcm;omega) u vc w).mono fun e w' h=>post e w' h
 ·
  have hm:0<vs.length:=List.length_pos_iff.2 hm0;rcases ha2.A9 with⟨_,h⟩|⟨ad,vc,k',us,rfl,hk',hru,hcu,_,_⟩
  ·exact absurd h hm0
  have hul:us.length=vs.length*k:=by rw[hru.1,nU vs k fun u hu=>(hvs u hu).1]
  have hone:=OH hru fun u hu=>(hvs u hu).2
  have hpos:0<us.length:=by rw[hul];exact Nat.mul_pos hm hk0
  obtain⟨c0,hc0⟩:∃c0,us[0]?=some c0:=⟨_,Qv hpos⟩;obtain⟨had,hadM⟩:=hcu 0 c0 hc0;have had:w.cell? ad=some c0:=by rw[V8]at had;exact had
  have hcell:∀(j:Nat) (u:Value),us[j]?=some u->w.cell? (ad.add j)=some u:=fun j u hj=>(hcu j u hj).1
  have hadlt:ad.block<w.heap.size:=by
   by_cases h:ad.block<w.heap.size
   ·exact h
   ·have:w.heap[ad.block]?=none:=by rw[Array.getElem?_eq_none_iff];omega
    simp[World.cell?,this]at had
  have fin:∀(v1:Value) (w1:World),w1.ownsRow 0 E k v1 (es.length+vs.length) (xs++us)->w.grownBy w1 v.ownBlock->(v1.ownBlock=v.ownBlock\/v1.ownBlock=some w.heap.size)->(∃a n c,v= .slice a n c)->i=es.length->w.drawn<=w1.drawn->
    ∀(e:Ending) (w':World),e= .returned v1/\w'=w1->∃u,e= .returned u/\tI w' (Mv u X) E k u (es.take i++vs++es.drop i)/\(∀b,bS u=some b->bS v=some b\/w.heap.size<=b)/\Fr (bS v) w w':=by
   rintro v1 w1 ho hgr hat ⟨a0,n0,c0,hv0⟩ hie hdr e w' ⟨rfl,rfl⟩;have hb0:v.ownBlock=bS v:=kM hv0
   have hb1:v1.ownBlock=bS v1:=by
    rcases ho.2 with⟨h,_⟩|⟨_,_,_,h,_⟩
    ·exact kM h
    ·exact kM h
   have hfr:Fr (bS v) w w':=⟨hgr.os,hgr.tape,hgr.output,hgr.size,fun b hb hne=>hgr.block b hb (fun h=>hne (by rw[<-hb0,<-h])),hdr⟩
   have hub:∀b,bS v1=some b->bS v=some b\/w.heap.size<=b:=fun b hb=>by
    rw[<-hb1]at hb;rcases hat with h|h
    ·exact .inl (by rw[<-hb0,<-h];exact hb)
    ·rw[h]at hb;injection hb with hb;exact .inr (by omega)
   have he:es.take i++vs++es.drop i=es++vs:=by subst hie;simp
   rw[he]at hmem ⊢;refine⟨v1,rfl,⟨xs++us,by rw[QB];exact ho,hmem,?_⟩,hub,hfr⟩
   rw[List.flatten_append];exact(hr.append hru).mono (Hl hfr hub) (cU.le _)
  rcases hown.2 with⟨rfl,h0⟩|⟨g,cap,cur,rfl,hb0,hg,hnc,hcm,hcs,htk⟩
  ·obtain rfl:i=0:=by omega
   obtain⟨v1,w1,r1,r2,r3,_,r5⟩:=run_append_own_at (P:=P) w 0 S 0 E inf z k bytes H.hS hi1 hi2 hi4 hi5 hi3 hk0 (.slice none 0 0) es.length xs hown ad vs.length vc us hul hcell hone hmax hby (QS _);exact(H.yk ad vs.length vc hm w w1 v1 fun ty=>r1).mono fun e w' h=>fin v1 w1 r2 r3 r5 ⟨_,_,_,rfl⟩ h0.symm (zk (P:=P) w 0 S 0 E inf z k bytes H.hS hi1 hi2 hi4 hi5 hk0 (.slice none 0 0) es.length xs hown ad vs.length vc us hul hcell hone hmax hby r1) e w' h
  ·have hcm':cap<=9223372036854775807:=by simp only[maxLen]at hcm;omega
   by_cases hie:i=es.length
   ·obtain⟨v1,w1,r1,r2,r3,_,r5⟩:=run_append_own_at (P:=P) w 0 S 0 E inf z k bytes H.hS hi1 hi2 hi4 hi5 hi3 hk0 _ es.length xs hown ad vs.length vc us hul hcell hone hmax hby (QS _);have:=H.Kz g es.length cap hnc hcm' ad vs.length vc hm w w1 v1 fun ty=>r1
    rw[<-hie]at this ⊢;exact this.mono fun e w' h=>fin v1 w1 r2 r3 r5 ⟨_,_,_,rfl⟩ hie (zk (P:=P) w 0 S 0 E inf z k bytes H.hS hi1 hi2 hi4 hi5 hk0 _ es.length xs hown ad vs.length vc us hul hcell hone hmax hby r1) e w' h
   ·have hin:i<es.length:=by omega
    have hM:∀b,Mv (.slice (some ⟨g,0,none⟩) es.length cap) X b->True:=fun _ _=>trivial
    have hne:ad.block≠g:=fun h=>hadM (.inl (by rw[h];rfl))
    have hglt:g<w.heap.size:=(Array.getElem?_eq_some_iff.1 hg).1;have hxl:xs.length=es.length*k:=hown.1;have hcl:es.length*k<=cur.toList.length:=by simpa[hcs]using Nat.mul_le_mul_right k hnc
    have hx1:=OH hr h1e;obtain⟨ys,hys⟩:∃ys,ys=xs.drop (i*k):=⟨_,rfl⟩;have hyl:ys.length=(es.length - i)*k:=by rw[hys,List.length_drop,hxl,Nat.sub_mul]
    have hy1:∀y∈ys,y.oneCell'=true:=fun y hy=>hx1 y (Q2 (hys▸hy))
    have hcx:∀(j:Nat) (u:Value),xs[j]?=some u->w.cell? ⟨g,j,none⟩=some u:=fun j u hj=>by
     refine nF hg ?_;rw[<-htk,List.getElem?_take]at hj;split at hj
     ·exact hj
     ·cases hj
    have hcy:∀(j:Nat) (u:Value),ys[j]?=some u->w.cell? ((⟨g,i*k,none⟩:Addr).add j)=some u:=fun j u hj=>by
     rw[add_mid];rw[hys,List.getElem?_drop]at hj;exact hcx _ u hj
    have hik:i*k+us.length=(i+vs.length)*k:=by rw[hul,Nat.add_mul]
    have htot:i*k+us.length+ys.length=(es.length+vs.length)*k:=by
     rw[hul,hyl,<-Nat.add_mul,<-Nat.add_mul];congr 1;omega
    have hres:aY w (Mv (.slice (some ⟨g,0,none⟩) es.length cap) X) cU (es.take i++vs++es.drop i).flatten (xs.take (i*k)++us++ys):=by
     rw[List.flatten_append,List.flatten_append,ra k i es hke,vu k i es hke,hys];exact((hr.take _).append hru).append (hr.drop _)
    have hlen:(es.take i++vs++es.drop i).length=es.length+vs.length:=by simp;omega
    have htl:(xs.take (i*k)++us++ys).length=(es.length+vs.length)*k:=by
     rw[QB,QB,List.length_take,hxl,Nat.min_eq_left (Nat.mul_le_mul_right k hi)];exact htot
    by_cases hroom:es.length+vs.length<=cap
    ·
     have hfit:(es.length+vs.length)*k<=cur.toList.length:=by simpa[hcs]using Nat.mul_le_mul_right k hroom
     have r1:=tx (P:=P) w.drew S S 0 E g ((i+vs.length)*k) (es.length+vs.length - (i+vs.length)) 0 ⟨g,i*k,none⟩ (es.length+vs.length - i) 0 cur E ys k (es.length - i) H.hS hsz hg
      (by simp only[Nat.min_def];split<;>omega) hyl hcy (by simp only[Array.length_toList]at hfit;omega) hy1
     obtain⟨cur1,hcur1⟩:∃cur1:Array Value,cur1=(ou cur.toList ((i+vs.length)*k) ys).toArray:=⟨_,rfl⟩;have hg1:(w.drew.setRow g cur1).heap[g]?=some (.cells cur1 E (0,0)):=setRow_heap w.drew g cur _ E _ hg
     have hl1:cur1.size=cap*k:=by
      rw[hcur1,List.size_toArray,Cr (by rw[<-hik];omega),Array.length_toList,hcs]
     have r2:=tx (P:=P) (w.drew.setRow g cur1) S S 0 E g (i*k) (es.length+vs.length - i) 0 ad vs.length vc cur1 E us k vs.length H.hS hsz hg1
      (by simp only[Nat.min_def];split<;>omega) hul (fun j u hj=>by rw[World.cell?_of_block (w:=w) (sX w.drew g cur1 (by rw[C9];exact hne))];exact hcell j u hj)
      (by rw[hl1,<-hcs,<-Array.length_toList];omega) hone
     obtain⟨cur2,hcur2⟩:∃cur2:Array Value,cur2=(ou cur1.toList (i*k) us).toArray:=⟨_,rfl⟩;have hg2:((w.drew.setRow g cur1).setRow g cur2).heap[g]?=some (.cells cur2 E (0,0)):=setRow_heap _ g cur1 _ E _ hg1
     have hc2:cur2.toList=xs.take (i*k)++us++ys++cur.toList.drop ((es.length+vs.length)*k):=by
      rw[hcur2,hcur1,<-hik,RP (by omega),htot,<-htk,List.take_take,Nat.min_eq_left (Nat.mul_le_mul_right k hi)]
     have hC:cur.toList.length=cap*k:=(Array.length_toList (xs:=cur)).trans hcs;have hL1:cur1.toList.length=cap*k:=(Array.length_toList (xs:=cur1)).trans hl1;have hfr:Fr (some g) w ((w.drew.setRow g cur1).setRow g cur2):=(Fr.ab2 w _).trans' ((Mj _ g _).trans' (Mj _ g _))
     have hcap0:cur.size≠0:=by
      have:0<cap:=by omega
      rw[hcs];exact Nat.ne_of_gt (Nat.mul_pos this hk0)
     refine(H.shift g es.length cap i hin hcm' ad vs.length vc hm hroom w (w.drew.setRow g cur1) ((w.drew.setRow g cur1).setRow g cur2) (fun lb cb=> ?_) (fun ty dc sc=> ?_) (fun ty dc=> ?_)).mono ?_
     ·exact H.AA _ w (HN w S B E H.hS k (fun w'=>by simp[Go.sizeOf,typeInfo,hi1,hi4]) ad ⟨g,(i+vs.length)*k,none⟩ vs.length vc lb cb hne had hg hcap0)
     ·rw[hcur1];exact r1
     ·rw[hcur2];exact r2
     ·rintro e w' ⟨rfl,rfl⟩;refine⟨_,rfl,⟨xs.take (i*k)++us++ys,⟨?_,.inr ⟨g,cap,cur2,by rw[hlen],hb0,hg2,by rw[hlen];exact hroom,hcm,?_,?_⟩⟩,hmem,hres.mono (@Hl w _ (.slice (some ⟨g,0,none⟩) es.length cap) (.slice (some ⟨g,0,none⟩) (es.length+vs.length) cap) X hfr fun b hb=> .inl hb) (cU.le _)⟩,fun b hb=> .inl hb,hfr⟩
      ·rw[htl,hlen]
      ·rw[hcur2,List.size_toArray,Cr (by rw[hL1];omega),hL1]
      ·rw[hlen,hc2,<-htl,List.take_left' rfl]
    ·
     have hik2:i+(es.length+vs.length - i)=es.length+vs.length:=by omega
     have hold:(Builtin.firstCells inf.size i (.slice (some ⟨g,0,none⟩) i cap)).run P w.drew= .ok (xs.take (i*k)).toArray w.drew:=by
      rw[hi4];refine run_firstCells_some w.drew k i ⟨g,0,none⟩ i cap (xs.take (i*k)) (by rw[List.length_take,hxl];exact Nat.min_eq_left (Nat.mul_le_mul_right k hi)) fun j u hj=> ?_
      rw[add_mid,Nat.zero_add];rw[List.getElem?_take]at hj;split at hj
      ·exact hcx j u hj
      ·cases hj
     have hmax':es.length+vs.length<=9223372036854775807:=by simp only[maxLen]at hmax;omega
     have r0:=fun ty=>Lib.run_append_grow_zeros (P:=P) w S I ty E inf z .i64 .i64 H.hS H.hI hi1 hi2 (some ⟨g,0,none⟩) i cap (xs.take (i*k)) hold (es.length+vs.length - i) (by omega) (by omega) (by omega) (by omega)
      (by rw[hi5];have:=Nat.mul_le_mul_right bytes (show es.length+vs.length - i<=es.length+vs.length by omega);omega) (by rw[hi5,hik2];exact growslice_fits (by omega) hby)
     rw[hik2]at r0;obtain⟨G,hG⟩:∃G,G=grownCap w (es.length+vs.length) cap E:=⟨_,rfl⟩;have hGn:es.length+vs.length<=G:=by rw[hG];exact grownCap_ge w _ _ _
     have hGm:G<=maxLen:=by rw[hG];exact grownCap_le_maxLen w _ _ _ hmax
     have hG63:G<=9223372036854775807:=by simp only[maxLen]at hGm;omega
     rw[<-hG]at r0;obtain⟨row,hrow⟩:∃row:Array Value,row=(xs.take (i*k)).toArray++Builtin.zeroCells z.cells (es.length+vs.length - i)++Builtin.zeroCells z.cells (G - (es.length+vs.length)):=⟨_,rfl⟩;rw[<-hrow]at r0;have hrt:(xs.take (i*k)).length=i*k:=by rw[List.length_take,hxl];exact Nat.min_eq_left (Nat.mul_le_mul_right k hi)
     have hrl:row.size=G*k:=by
      rw[hrow,Array.size_append,Array.size_append,List.size_toArray,hrt,size_zeroCells,size_zeroCells,hi3,<-Nat.add_mul,<-Nat.add_mul];congr 1;omega
     have hrtake:row.toList.take (i*k)=xs.take (i*k):=by
      rw[hrow,Array.toList_append,Array.toList_append,QL];exact List.take_left' hrt
     have hN:(w.drew.alloc (.cells row E)).heap[w.heap.size]?=some (.cells row E (0,0)):=by
      show(w.heap.push (.cells row E))[w.heap.size]?=_;simp
     have hkeep:∀b,b<w.heap.size->(w.drew.alloc (.cells row E)).heap[b]?=w.heap[b]?:=fun b hb=>Below.heap_alloc w.drew _ b hb
     have hfit:(es.length+vs.length)*k<=row.size:=by rw[hrl];exact Nat.mul_le_mul_right k hGn
     have r1:=tx (P:=P) (w.drew.alloc (.cells row E)) S S 0 E w.heap.size (i*k) (es.length+vs.length - i) 0 ad vs.length vc row E us k vs.length H.hS hsz hN
      (by simp only[Nat.min_def];split<;>omega) hul (fun j u hj=>by rw[World.cell?_of_block (w:=w) (hkeep _ (by rw[C9];exact hadlt))];exact hcell j u hj) (by omega) hone
     have hR:row.toList.length=G*k:=(Array.length_toList (xs:=row)).trans hrl;obtain⟨cur1,hcur1⟩:∃cur1:Array Value,cur1=(ou row.toList (i*k) us).toArray:=⟨_,rfl⟩;have hl1:cur1.size=G*k:=by rw[hcur1,List.size_toArray,Cr (by rw[hR];omega),hR]
     have hL1:cur1.toList.length=G*k:=(Array.length_toList (xs:=cur1)).trans hl1;have hg1:((w.drew.alloc (.cells row E)).setRow w.heap.size cur1).drew.heap[w.heap.size]?=some (.cells cur1 E (0,0)):=setRow_heap _ _ row _ E _ hN
     have r2:=tx (P:=P) ((w.drew.alloc (.cells row E)).setRow w.heap.size cur1).drew S S 0 E w.heap.size ((i+vs.length)*k) (es.length+vs.length - (i+vs.length)) 0 ⟨g,i*k,none⟩ (es.length - i) 0 cur1 E ys k (es.length - i) H.hS hsz hg1
      (by simp only[Nat.min_def];split<;>omega) hyl (fun j u hj=>by
       rw[World.cell?_of_block (w:=w) (w':=((w.drew.alloc (.cells row E)).setRow w.heap.size cur1).drew) (((sX _ w.heap.size cur1 (by rw[C9];exact Nat.ne_of_lt hglt)).trans (hkeep _ (by rw[C9];exact hglt))))]
       exact hcy j u hj) (by rw[hl1,<-hrl,<-hik];omega) hy1
     obtain⟨cur2,hcur2⟩:∃cur2:Array Value,cur2=(ou cur1.toList ((i+vs.length)*k) ys).toArray:=⟨_,rfl⟩;obtain⟨w3,hw3⟩:∃w3,w3=((w.drew.alloc (.cells row E)).setRow w.heap.size cur1).drew.setRow w.heap.size cur2:=⟨_,rfl⟩;have hg2:w3.heap[w.heap.size]?=some (.cells cur2 E (0,0)):=by rw[hw3];exact setRow_heap _ _ cur1 _ E _ hg1
     have hc2:cur2.toList=xs.take (i*k)++us++ys++row.toList.drop ((es.length+vs.length)*k):=by
      rw[hcur2,hcur1,<-hik,TO (by rw[hR];omega),htot,hrtake]
     have hfr:Fr (some g) w w3:=by
      rw[hw3];refine⟨rfl,rfl,rfl,by simp[World.setRow],fun b hb _=> ?_,by show w.drawn<=w.drawn+1+1;omega⟩
      rw[sX _ _ _ (Nat.ne_of_lt hb)];exact(sX _ w.heap.size cur1 (Nat.ne_of_lt hb)).trans (hkeep b hb)
     refine(H.grow g es.length cap i hin hnc hcm' ad vs.length vc hm (by omega) w.heap.size G hGn hG63 w (w.drew.alloc (.cells row E)) ((w.drew.alloc (.cells row E)).setRow w.heap.size cur1) w3 (fun ty=> ?_) (fun ty dc=> ?_) (fun ty dc sc=> ?_)).mono ?_
     ·have:=r0 ty;rw[show((es.length+vs.length - i:Nat):Int)=(es.length:Int)+(vs.length:Int) - (i:Int)by omega]at this
      exact this
     ·rw[hcur1];exact r1
     ·rw[hw3,hcur2];exact r2
     ·rintro e w' ⟨rfl,rfl⟩
      have hub:∀b,bS (.slice (some ⟨w.heap.size,0,none⟩) (es.length+vs.length) G)=some b->bS (.slice (some ⟨g,0,none⟩) es.length cap)=some b\/w.heap.size<=b:=fun b hb=>by
       injection hb with hb
       exact .inr (Nat.le_of_eq hb)
      refine⟨_,rfl,⟨xs.take (i*k)++us++ys,⟨?_,.inr ⟨w.heap.size,G,cur2,by rw[hlen],QS _,hg2,by rw[hlen];exact hGn,hGm,?_,?_⟩⟩,hmem,hres.mono (@Hl w _ (.slice (some ⟨g,0,none⟩) es.length cap) (.slice (some ⟨w.heap.size,0,none⟩) (es.length+vs.length) G) X hfr hub) (cU.le _)⟩,hub,hfr⟩
      ·rw[htl,hlen]
      ·rw[hcur2,List.size_toArray,Cr (by rw[hL1,<-hik];omega),hL1]
      ·rw[hlen,hc2,<-htl,List.take_left' rfl]
end Go.TQ
end
noncomputable section
namespace Go.Proofs.YtkgenianmdfmdaaGreat
open Go.RowKit Go.TQ Go.Lib
namespace T8
theorem zE:∀w:World,(Go.sizeOf 48).run Tryz.prog w= .ok 15 w:=fun _=>by kernel_rfl
set_option maxHeartbeats 4000000 in
set_option maxRecDepth 100000 in
theorem zZ(g n c i:Nat)(hi:i<=n)(hc:n<=c)(hc63:c<=9223372036854775807)(u:Option Addr)(vc:Nat)(w:World):
  Calls Tryz.prog 95 #[.slice (some ⟨g,0,none⟩) n c,.int .i64 i,.slice u 0 vc] w fun e w'=>e= .returned (.slice (some ⟨g,0,none⟩) n c)/\w'=w:=by
 have zE:=zE;have uS:=run_underlying Tryz.underlying30
 go_enter Tryz.func95,Tryz.ntmps95
 go_wp2
 all_goals go_ret
 all_goals exact⟨rfl,rfl⟩
set_option maxHeartbeats 4000000 in
set_option maxRecDepth 100000 in
theorem Cz(u:Option Addr)(vc:Nat)(w:World):
  Calls Tryz.prog 95 #[.slice none 0 0,.int .i64 0,.slice u 0 vc] w fun e w'=>e= .returned (.slice none 0 0)/\w'=w:=by
 have zE:=zE;have uS:=run_underlying Tryz.underlying30
 go_enter Tryz.func95,Tryz.ntmps95
 go_wp2
 all_goals go_ret
 all_goals exact⟨rfl,rfl⟩
set_option maxHeartbeats 4000000 in
set_option maxRecDepth 100000 in
theorem Kz(g n c:Nat)(hc:n<=c)(hc63:c<=9223372036854775807)(ad:Addr)(m vc:Nat)(hm:0<m)(w w1:World)(v1:Value)
  (hr:∀ty,(Builtin.append_ #[30,30] ty #[.slice (some ⟨g,0,none⟩) n c,.slice (some ad) m vc]).run Tryz.prog w= .ok v1 w1):
  Calls Tryz.prog 95 #[.slice (some ⟨g,0,none⟩) n c,.int .i64 n,.slice (some ad) m vc] w fun e w'=>e= .returned v1/\w'=w1:=by
 have zE:=zE;have uS:=run_underlying Tryz.underlying30;have hz1:¬((m:Int)=0):=by omega
 go_enter Tryz.func95,Tryz.ntmps95
 go_wp2_with (at_builtin;refine Lib.wpList_append_run _ rfl _ _ _ _ rfl _ _ rfl rfl _ _ (hr _) ?_)
 all_goals go_ret
 all_goals exact⟨rfl,rfl⟩
set_option maxHeartbeats 4000000 in
set_option maxRecDepth 100000 in
theorem yk(ad:Addr)(m vc:Nat)(hm:0<m)(w w1:World)(v1:Value)
  (hr:∀ty,(Builtin.append_ #[30,30] ty #[.slice none 0 0,.slice (some ad) m vc]).run Tryz.prog w= .ok v1 w1):
  Calls Tryz.prog 95 #[.slice none 0 0,.int .i64 0,.slice (some ad) m vc] w fun e w'=>e= .returned v1/\w'=w1:=by
 have zE:=zE;have uS:=run_underlying Tryz.underlying30;have hz1:¬((m:Int)=0):=by omega
 go_enter Tryz.func95,Tryz.ntmps95
 go_wp2_with (at_builtin;refine Lib.wpList_append_run _ rfl _ _ _ _ rfl _ _ rfl rfl _ _ (hr _) ?_)
 all_goals go_ret
 all_goals exact⟨rfl,rfl⟩
set_option maxHeartbeats 4000000 in
set_option maxRecDepth 100000 in
theorem shift(g n c i:Nat)(hi:i<n)(hc63:c<=9223372036854775807)(ad:Addr)(m vc:Nat)(hm:0<m)(hroom:n+m<=c)(w w1 w2:World)
  (hov:∀lb cb,(callFunc 113 #[.slice (some ad) m vc,.slice (some ⟨g,(i+m)*15,none⟩) lb cb]).run Tryz.prog w= .ok (.value (.bool false)) w)
  (h1:∀ty dc sc,(Builtin.copy_ #[30,30] ty #[.slice (some ⟨g,(i+m)*15,none⟩) (n+m - (i+m)) dc,.slice (some ⟨g,i*15,none⟩) (n+m - i) sc]).run Tryz.prog w.drew= .ok (goInt (n - i:Nat)) w1)
  (h2:∀ty dc,(Builtin.copy_ #[30,30] ty #[.slice (some ⟨g,i*15,none⟩) (n+m - i) dc,.slice (some ad) m vc]).run Tryz.prog w1= .ok (goInt m) w2):
  Calls Tryz.prog 95 #[.slice (some ⟨g,0,none⟩) n c,.int .i64 i,.slice (some ad) m vc] w fun e w'=>e= .returned (.slice (some ⟨g,0,none⟩) (n+m) c)/\w'=w2:=by
 have zE:=zE;have uS:=run_underlying Tryz.underlying30;have hz1:¬((m:Int)=0):=by omega
 have hz2:¬((i:Int)=(n:Int)):=by omega
 have mixed:Tryz.prog.follows .mixedOrders=true:=by kernel_rfl
 have hw1:IntKind.i64.wrap ((i:Int)+(m:Int))=(i:Int)+(m:Int):=by rw[IntKind.wrap_i64];omega
 have hb1:(0:Int)<=(i:Int)+(m:Int):=by omega
 have hin:i<=n:=by omega
 have htn:((i:Int)+(m:Int)).toNat=i+m:=by omega
 have hb2:¬(c=i+m):=by omega
 have hb3:(i:Int)<=(n:Int)+(m:Int):=by omega
 have hb4:¬(c=i):=by omega
 go_enter Tryz.func95,Tryz.ntmps95
 go_wp2_with (simp only[hov])
 go_region_law_o (refine step_copy_runI rfl _ _ 30 30 rfl _ _ (by simp[Act.eval,Act.put]) (by simp[Act.eval,Act.put]) (h1 _ _ _) ?_)
 go_wp2_with (at_builtin;refine wpList_copy_runI _ rfl _ _ 30 30 rfl _ _ rfl rfl (h2 _ _) ?_)
 go_ret
 exact⟨rfl,rfl⟩
set_option maxHeartbeats 4000000 in
set_option maxRecDepth 100000 in
theorem grow(g n c i:Nat)(hi:i<n)(hc:n<=c)(hc63:c<=9223372036854775807)(ad:Addr)(m vc:Nat)(hm:0<m)(hroom:c<n+m)(N G:Nat)(hGn:n+m<=G)(hG63:G<=9223372036854775807)(w w1 w2 w3:World)
  (hz:∀ty,(Builtin.append_ #[30,3] ty #[.slice (some ⟨g,0,none⟩) i c,.int .i64 ((n:Int)+(m:Int) - (i:Int))]).run Tryz.prog w= .ok (.slice (some ⟨N,0,none⟩) (n+m) G) w1)
  (h1:∀ty dc,(Builtin.copy_ #[30,30] ty #[.slice (some ⟨N,i*15,none⟩) (n+m - i) dc,.slice (some ad) m vc]).run Tryz.prog w1= .ok (goInt m) w2)
  (h2:∀ty dc sc,(Builtin.copy_ #[30,30] ty #[.slice (some ⟨N,(i+m)*15,none⟩) (n+m - (i+m)) dc,.slice (some ⟨g,i*15,none⟩) (n - i) sc]).run Tryz.prog w2.drew= .ok (goInt (n - i:Nat)) w3):
  Calls Tryz.prog 95 #[.slice (some ⟨g,0,none⟩) n c,.int .i64 i,.slice (some ad) m vc] w fun e w'=>e= .returned (.slice (some ⟨N,0,none⟩) (n+m) G)/\w'=w3:=by
 have zE:=zE;have uS:=run_underlying Tryz.underlying30;have hz1:¬((m:Int)=0):=by omega
 have hz2:¬((i:Int)=(n:Int)):=by omega
 have hz3:(c:Int)<(n:Int)+(m:Int):=by omega
 have mixed:Tryz.prog.follows .mixedOrders=true:=by kernel_rfl
 have hw1:IntKind.i64.wrap ((i:Int)+(m:Int))=(i:Int)+(m:Int):=by rw[IntKind.wrap_i64];omega
 have hb1:(0:Int)<=(i:Int)+(m:Int):=by omega
 have hin:i<=n:=by omega
 have htn:((i:Int)+(m:Int)).toNat=i+m:=by omega
 have hb3:(i:Int)<=(n:Int):=by omega
 have hGi:¬(G=i):=by omega
 have hGim:¬(G=i+m):=by omega
 have hci:¬(c=i):=by omega
 go_enter Tryz.func95,Tryz.ntmps95
 go_wp2_with (first
  |(at_builtin;refine Lib.wpList_append_run _ rfl _ _ _ _ rfl _ _ rfl rfl _ _ (hz _) ?_)
  |(at_builtin;refine wpList_copy_runI _ rfl _ _ 30 30 rfl _ _ rfl rfl (h1 _ _) ?_))
 go_region_law_o (refine step_copy_runI rfl _ _ 30 30 rfl (.slice (some ⟨N,(i+m)*15,none⟩) (n+m - (i+m)) (G - (i+m))) (.slice (some ⟨g,i*15,none⟩) (n - i) (c - i)) (by simp[Act.eval,Act.put]) (by simp[Act.eval,Act.put]) (h2 3 (G - (i+m)) (c - i)) ?_)
 go_wp2
 go_ret
 exact⟨rfl,rfl⟩
theorem ways:XR Tryz.prog 95 30 48 3 4 113 15 176 where
 aaC:=by decide
 hS:=Tryz.underlying30
 hI:=Tryz.underlying3
 aaF:=Zj (by kernel_rfl)
 AA:=fun x w h=>by
  rw[run_callFunc_extern Tryz.func113 (by kernel_rfl) (by kernel_rfl) (by kernel_rfl) (e:=Extern.SlicesOverlaps.overlaps #[30,30] #[4]) (by kernel_rfl),h]
  rfl
 zZ:=zZ
 Cz:=Cz
 Kz:=Kz
 yk:=yk
 shift:=shift
 grow:=grow
theorem enters:Go.TQ.Enters Tryz.prog 95:=⟨Tryz.f95,Tryz.func95,by kernel_rfl,by kernel_rfl⟩
end T8
end Go.Proofs.YtkgenianmdfmdaaGreat
end
noncomputable section
namespace Go.TQ
def Pu{α:Type}(bytes:Nat)(s:List α)(i:Int)(v:List α):Option (List α):=bif decide (0<=i)&&decide (i<=((s.length:Nat):Int))&&bB bytes (s.length+v.length)then some (s.take i.toNat++v++s.drop i.toNat)else none
theorem eK{P:Program}{f S E I B ov k bytes:Nat}(H:XR P f S E I B ov k bytes)(hent:Enters P f){T:Ty}(hk:∀x:T.den,(T.pv x).length=k):
  dm.Sound P (U:=U) (.cw f E k T [.ty (Ty.i .i64),.ty (Ty.sl T)] fun s a=>Pu bytes s a.1 a.2.1):=by
 refine⟨hent,fun xs a ys h=> ?_⟩
 suffices key:∀(i:Int) (v:List T.den) (ys:List T.den),Pu bytes xs i v=some ys->Iw P f E k (xs.map T.pv) [.int .i64 i,.sl (v.map T.pv)] (ys.map T.pv)from key a.1 a.2.1 ys h
 clear h;intro i v ys h;unfold Pu at h
 cases hc:(decide (0<=i)&&decide (i<=((xs.length:Nat):Int))&&bB bytes (xs.length+v.length))with
 |false=>rw[hc]at h;cases h
 |true=>
  rw[hc]at h;injection h with h
  subst h;simp only[Qm,Qi]at hc;obtain⟨⟨h0,h1⟩,h2⟩:=hc;obtain⟨h3,h4⟩:=yd h2;have hone:∀x:T.den,(T.pv x).all PV.one=true:=fun x=>QH.2 fun y hy=>PA (K.fS T x y hy)
  have:=Zi H (es:=xs.map T.pv) (vs:=v.map T.pv) (i:=i.toNat) (by rw[QC];omega)
   (fun u hu=>by obtain⟨x,_,rfl⟩:=QP.1 hu;exact hone x) (fun u hu=>by obtain⟨x,_,rfl⟩:=QP.1 hu;exact⟨hk x,hone x⟩)
   (by rw[QC,QC];exact h4) (by rw[QC,QC];exact h3)
  rw[<-List.map_take,<-List.map_drop,<-List.map_append,<-List.map_append,show((i.toNat:Nat):Int)=i by omega]at this
  exact this
end Go.TQ
end
noncomputable section
namespace Go.TQ
open Go.Proofs Go.Sort Go.RowKit Go.Lib
def u6:PV->Bool
 | .int _ _=>true
 | .str _=>true
 | .bool _=>true
 |_=>false
def nq:PV->Value
 | .int k n=> .int k n
 | .str s=> .string s
 | .bool b=> .bool b
 |_=>undef
theorem Ex{w:World}{M:Nat->Prop}{G:Gh}{x:PV}(h:u6 x=true):aW w M G x (nq x):=by
 cases x<;>first|exact .int _ _|exact .str _|exact .bool _|exact absurd h (by simp[u6])
theorem Vb{w:World}{M:Nat->Prop}{G:Gh}{x:PV}{v:Value}(h:u6 x=true)(hr:aW w M G x v):v=nq x:=by
 cases x<;>first|(cases hr;rfl)|exact absurd h (by simp[u6])
theorem My{x:PV}(h:u6 x=true):(nq x).oneCell'=true:=by
 cases x<;>first|rfl|exact absurd h (by simp[u6])
theorem Jn{w:World}{M:Nat->Prop}{G:Gh}:∀{xs:List PV} {vs:List Value},xs.all u6=true->aY w M G xs vs->vs=xs.map nq
 |[],vs,_,hr=>hr.l9
 |x::xs,vs,h,hr=>by
  obtain⟨v,vs',rfl,r1,r2⟩:=hr.cons_inv;rw[List.all_cons,Qm]at h;rw[QD,<-Vb h.1 r1,<-Jn h.2 r2]
theorem Jm{w:World}{M:Nat->Prop}{G:Gh}:∀{xs:List PV},xs.all u6=true->aY w M G xs (xs.map nq)
 |[],_=> .nil
 |x::xs,h=>by
  rw[List.all_cons,Qm]at h;exact .cons (Ex h.1) (Jm h.2)
theorem ZA{w w':World}(h:Fr none w w'):∃q os,w'=grow (w.drewN q) os:=by
 refine⟨w'.drawn - w.drawn,w'.heap.extract w.heap.size w'.heap.size,?_⟩;have hs:=h.size
 have hh:w'.heap=w.heap++w'.heap.extract w.heap.size w'.heap.size:=by
  apply Array.ext_getElem?;intro k;rw[Array.getElem?_append];split
  ·rename_i hk;exact h.block k hk (by simp)
  ·rename_i hk;rw[Array.getElem?_extract];split
   ·rw[show w.heap.size+(k - w.heap.size)=k by omega]
   ·exact Array.getElem?_eq_none (by omega)
 have h1:=h.os;have h2:=h.tape;have h3:=h.output;have h4:=h.drawn
 cases w' with|mk hp tp dr os out=>
 cases w with|mk hp' tp' dr' os' out'=>
 simp only at h1 h2 h3 h4 hh;subst h1 h2 h3;unfold grow World.drewN;simp only;rw[<-hh,show dr'+(dr - dr')=dr by omega]
theorem OW{w:World}{b n:Nat}{F:Array Value}{os:Array Obj}{cur:Array Value}{e:TypeId}{fr:Nat×Nat}(hb:w.heap[b]?=some (.cells cur e fr)):
  (grow (putRow id (Sort.ahead w n) b 0 F) os).heap[b]?=some (.cells (putCells id 0 F cur) e fr):=by
 have hlt:b<w.heap.size:=(Array.getElem?_eq_some_iff.1 hb).1;unfold grow putRow mapBlock Sort.ahead;simp only;rw[Array.getElem?_append_left (by simp;exact hlt),Array.getElem?_modify,Qr rfl,hb]
 rfl
theorem U8{w:World}{b n:Nat}{F:Array Value}{os:Array Obj}:Fr (some b) w (grow (putRow id (Sort.ahead w n) b 0 F) os):=by
 refine⟨rfl,rfl,rfl,?_,fun q hq hne=> ?_,Nat.le_add_right _ _⟩
 ·unfold grow putRow mapBlock Sort.ahead;simp only[Array.size_append,Array.size_modify];omega
 ·have hqb:¬b=q:=fun e=>hne (by rw[e])
  unfold grow putRow mapBlock Sort.ahead;simp only;rw[Array.getElem?_append_left (by simp;exact hq),Array.getElem?_modify,Qs hqb]
theorem Mt{F cur:Array Value}(h:F.size<=cur.size):(putCells id 0 F cur).toList=F.toList++cur.toList.drop F.size:=by
 apply List.ext_getElem?;intro i;rw[Array.getElem?_toList];unfold putCells;rw[Array.getElem?_mapIdx,List.getElem?_append];simp only[Array.length_toList,QS,true_and,Nat.zero_add,Nat.sub_zero,id]
 by_cases hi:i<F.size
 ·rw[Qr hi,Array.getElem?_toList,Array.getElem?_eq_getElem (show i<cur.size by omega),Array.getElem?_eq_getElem hi,Qe,Qr hi,getElem!_pos F i hi]
 ·rw[Qs hi,List.getElem?_drop,Array.getElem?_toList,show F.size+(i - F.size)=i by omega]
  cases cur[i]? with
  |none=>rfl
  |some y=>rw[Qe,Qs hi]
def Rr(P:Program)(f k:Nat):Prop:=∀(α:Type) [Inhabited α] (bY:α->List Value) (_:∀x,(bY x).length=k) (_:∀x,∀v∈bY x,v.oneCell'=true) (cf:α->α->Int) (_:Go.Sort.SWO (ltOf cf)) (g:Nat) (cb:Array Value) (bS off cap:Nat) (d:Array α) (w:World)
  (_:∀args w,(callFunc g args).run P w= .ok (.enter g args) w) (_:CmpLays P g cb bY k cf bS off d.size w) (_:HoldsK bY k w bS off d) (_:bS<w.heap.size) (_:d.size<4611686018427387904) (_:∀x y,(ltOf cf) x y=false->(ltOf cf) y x=false->x=y),
  Calls P f #[.slice (some ⟨bS,off,none⟩) d.size cap,.func (.func g) #[] cb] w fun e w'=>
   e= .returned (.tuple #[])/\∃n os,w'=sortWorldK bY k w bS off n (d.toList.mergeSort fun x y=> !(ltOf cf) y x).toArray os
def KL(P:Program)(f:Nat):Prop:=∀(α:Type) [Inhabited α] (bY:α->Value) (_:OneCell bY) (cf:α->α->Int) (_:Go.Sort.SWO (ltOf cf)) (g:Nat) (cb:Array Value) (bS off cap:Nat) (d:Array α) (w:World)
  (_:∀args w,(callFunc g args).run P w= .ok (.enter g args) w) (_:CmpLays1 P g cb bY cf bS off d.size w) (_:Holds bY w bS off d) (_:bS<w.heap.size) (_:d.size<4611686018427387904) (_:∀x y,(ltOf cf) x y=false->(ltOf cf) y x=false->x=y),
  Calls P f #[.slice (some ⟨bS,off,none⟩) d.size cap,.func (.func g) #[] cb] w fun e w'=>
   e= .returned (.tuple #[])/\∃n os,w'=sortWorld bY w bS off n (d.toList.mergeSort fun x y=> !(ltOf cf) y x).toArray os
def Fl(P:Program)(f:Nat):Prop:=∀(p:Option Addr) (cap:Nat) (fv:Value) (w:World),Calls P f #[.slice p 0 cap,fv] w fun e w'=>e= .returned (.tuple #[])/\w'=w
section
variable {P : Program} {α : Type} [Inhabited α] {pv : α -> List PV} {k : Nat}
def mU(pv:α->List PV)(x:α):List Value:=(pv x).map nq
def Rq(P:Program)(f g e k:Nat)(pv:α->List PV)(le:α->α->Bool):Prop:=
 ∀(w:World) (b cap:Nat) (xs:List α) (cur:Array Value),w.heap[b]?=some (.cells cur e (0,0))->xs.length<4611686018427387904->xs.length<=cap->cap<=maxLen->cur.size=cap*k->cur.toList.take (xs.length*k)=xs.flatMap (mU pv)->
  Calls P f #[.slice (some ⟨b,0,none⟩) xs.length cap,.func (.func g) #[] #[]] w fun en w'=>en= .returned (.tuple #[])/\
   ∃cur':Array Value,w'.heap[b]?=some (.cells cur' e (0,0))/\cur'.size=cur.size/\cur'.toList.take (xs.length*k)=(xs.mergeSort le).flatMap (mU pv)/\Fr (some b) w w'
theorem MX(hk:∀x,(pv x).length=k):∀xs:List α,(xs.flatMap (mU pv)).length=xs.length*k
 |[]=>by simp
 |x::xs=>by rw[List.flatMap_cons,QB,MX hk xs,mU,QC,hk,QE,Nat.add_mul,Nat.one_mul,Nat.add_comm]
theorem Sf{f g e:Nat}{le:α->α->Bool}(h0:Fl P f)(hs:Rq P f g e k pv le)(hk0:0<k)(hk:∀x,(pv x).length=k)(hp:∀x,(pv x).all u6=true)(xs:List α)(hsx:xs.length<4611686018427387904):
  L0 P f e k (xs.map pv) [.bA g []] (.dG []) ((xs.mergeSort le).map pv):=by
 intro w X hX v vs hvX ⟨us,hown,hke,hr⟩ hargs;obtain⟨a1,args,rfl,ha1,hargs⟩:=hargs.cons_inv;obtain rfl:=hargs.l9;obtain⟨cs,rfl,hcs⟩:=ha1.uK;obtain rfl:=hcs.l9
 have hflat:∀l:List α,(l.map pv).flatten.map nq=l.flatMap (mU pv):=fun l=>by
  induction l with
  |nil=>rfl
  |cons x l ih=>rw[QD,List.flatten_cons,List.map_append,ih,List.flatMap_cons];rfl
 have hplain:∀l:List α,(l.map pv).flatten.all u6=true:=fun l=>by
  induction l with
  |nil=>rfl
  |cons x l ih=>rw[QD,List.flatten_cons,List.all_append,ih,hp x];rfl
 have hus:us=xs.flatMap (mU pv):=by rw[Jn (hplain xs) hr,hflat]
 have hms:(xs.mergeSort le).length=xs.length:=List.length_mergeSort xs
 have hkm:∀l:List α,∀u∈l.map pv,u.length=k:=fun l u hu=>by
  obtain⟨x,_,rfl⟩:=QP.1 hu;exact hk x
 have hlen:(xs.map pv).length=xs.length:=QC ..;have hlen2:((xs.mergeSort le).map pv).length=xs.length:=by rw[QC,hms]
 rw[hlen]at hown
 have hrep:∀w':World,aY w' (Mv v X) cU ((xs.mergeSort le).map pv).flatten ((xs.mergeSort le).flatMap (mU pv)):=fun w'=>by
  rw[<-hflat];exact Jm (hplain _)
 by_cases hx:xs=[]
 ·
  subst hx
  have hv:∃p cap,v= .slice p 0 cap:=by
   rcases hown.2 with⟨h1,_⟩|⟨b,cap,cur,h1,_⟩
   ·exact⟨none,0,h1⟩
   ·exact⟨_,cap,h1⟩
  obtain⟨p,cap,hv⟩:=hv;have:=h0 p cap (.func (.func g) #[] [].toArray) w;rw[<-hv]at this;refine this.mono fun en w' ⟨h1,h2⟩=> ?_
  subst h2;refine⟨_,h1,.dG _ [] rfl (fun i x v h=>by simp at h),⟨us,?_,hkm _,?_⟩,Fr.refl _ _⟩
  ·rw[hlen2];exact hown
  ·rw[hus];have:=hrep w';rw[show([]:List α).mergeSort le=[]from by simp]at this ⊢
   exact this
 ·rcases hown.2 with⟨_,h2⟩|⟨b,cap,cur,rfl,hbase,hb,hn,hcap,hsz,htake⟩
  ·exact absurd (List.eq_nil_of_length_eq_zero h2) hx
  ·refine(hs w b cap xs cur hb hsx hn hcap hsz (by rw[htake,hus])).mono fun en w' ⟨h1,cur',h2,h3,h4,h5⟩=> ?_
   refine⟨_,h1,.dG _ [] rfl (fun i x v h=>by simp at h),⟨(xs.mergeSort le).flatMap (mU pv),⟨?_,.inr ⟨b,cap,cur',by rw[hlen2],hbase,h2,by rw[hlen2];exact hn,hcap,by rw[h3];exact hsz,?_⟩⟩,hkm _,hrep w'⟩,h5⟩
   ·rw[MX hk,hms,hlen2]
   ·rw[hlen2];exact h4
theorem G2{bY:α->List Value}(hk:∀x,(bY x).length=k)(hk0:0<k):∀(l:List α) (t:Nat),t<l.length*k->(l.flatMap bY)[t]?=(bY l[t / k]!)[t % k]?
 |[],t,h=>by simp at h
 |x::l,t,h=>by
  rw[List.flatMap_cons]
  by_cases ht:t<k
  ·rw[List.getElem?_append_left (by rw[hk];exact ht),Nat.div_eq_of_lt ht,Nat.mod_eq_of_lt ht]
   rfl
  ·rw[List.getElem?_append_right (by rw[hk];omega),hk]
   have hl:t - k<l.length*k:=by rw[QE,Nat.add_mul,Nat.one_mul]at h;omega
   rw[G2 hk hk0 l (t - k) hl,Nat.mod_eq_sub_mod (by omega:t>=k),show t / k=(t - k) / k+1 from Nat.div_eq_sub_div hk0 (by omega)]
   simp
theorem Ud{bY:α->List Value}(hk:∀x,(bY x).length=k)(hk0:0<k)(l:List α):(flatK bY k l.toArray).toList=l.flatMap bY:=by
 have hlen:(l.flatMap bY).length=l.length*k:=by
  induction l with
  |nil=>simp
  |cons x l ih=>rw[List.flatMap_cons,QB,ih,hk,QE,Nat.add_mul,Nat.one_mul,Nat.add_comm]
 apply List.ext_getElem?;intro t
 by_cases ht:t<l.length*k
 ·rw[G2 hk hk0 l t ht];have hm:t % k<(bY l[t / k]!).length:=by rw[hk];exact Nat.mod_lt _ hk0
  rw[Qv hm];unfold flatK;simp only[Array.toList_map,Array.toList_range,QT,List.size_toArray];rw[List.getElem?_range ht];simp only[Qe];congr 1;rw[show(l.toArray)[t / k]! =l[t / k]! by simp]
  exact getElem!_pos (bY l[t / k]!) (t % k) hm
 ·rw[List.getElem?_eq_none (by rw[Array.length_toList,size_flatK,List.size_toArray];omega),List.getElem?_eq_none (by omega)]
def XV(P:Program)(g:Nat)(val:α->Value)(cf:α->α->Int):Prop:=∀(x y:α) (w:World),Calls P g #[val x,val y] w fun e w'=>e= .returned (.int .i64 (cf x y))/\∃q os,w'=grow (w.drewN q) os
theorem J6{w:World}{b e cap:Nat}{xs:List α}{cur:Array Value}{F:Array Value}(hb:w.heap[b]?=some (.cells cur e (0,0)))(hF:F.toList=cur.toList.take F.size):Holds id w b 0 F:=by
 intro j hj
 have hc:cur[j]?=some F[j]:=by
  have h1:F.toList[j]?=some F[j]:=by rw[Array.getElem?_toList];exact Array.getElem?_eq_getElem hj
  rw[hF,List.getElem?_take,Qr hj,Array.getElem?_toList]at h1;exact h1
 rw[getElem!_pos F j hj];refine⟨?_,?_⟩
 ·unfold World.cell?;simp only[Nat.zero_add,hb];simpa using hc
 ·unfold World.frozen?;simp only[hb];simp
theorem acV{f g e:Nat}{cf:α->α->Int}(hS:Rr P f k)(hk0:0<k)(hk:∀x,(pv x).length=k)(hp:∀x,(pv x).all u6=true)(hO:Go.Sort.SWO (ltOf cf))(hT:∀x y,(ltOf cf) x y=false->(ltOf cf) y x=false->x=y)
  (eg:∀args w,(callFunc g args).run P w= .ok (.enter g args) w) (hc:XV P g (fun x=> .agg (mU pv x).toArray) cf):Rq P f g e k pv fun x y=> !(ltOf cf) y x:=by
 intro w b cap xs cur hb hsx hn hcap hsz htake;have hlt:b<w.heap.size:=(Array.getElem?_eq_some_iff.1 hb).1;have hkE:∀x,(mU pv x).length=k:=fun x=>by rw[mU,QC,hk]
 have hflat:∀l:List α,(flatK (mU pv) k l.toArray).toList=l.flatMap (mU pv):=Ud hkE hk0;have hcs:CmpLays P g #[] (mU pv) k cf b 0 xs.toArray.size w:=fun m os dk _ x y=>hc x y _
 have hH:HoldsK (mU pv) k w b 0 xs.toArray:=J6 (xs:=xs) (cap:=cap) hb (by rw[hflat,size_flatK,List.size_toArray];exact htake.symm)
 have:=hS α (mU pv) hkE (fun x v hv=>by obtain⟨y,hy,rfl⟩:=QP.1 hv;exact My (QH.1 (hp x) y hy)) cf hO g #[] b 0 cap xs.toArray w eg hcs hH hlt (by rw[List.size_toArray];exact hsx) hT
 refine this.mono fun en w' ⟨h1,n,os,h2⟩=>⟨h1,?_⟩
 have hms:(xs.mergeSort fun x y=> !(ltOf cf) y x).length=xs.length:=List.length_mergeSort xs
 have hFs:(flatK (mU pv) k (xs.mergeSort fun x y=> !(ltOf cf) y x).toArray).size=xs.length*k:=by rw[size_flatK,List.size_toArray,hms]
 have hFc:(flatK (mU pv) k (xs.mergeSort fun x y=> !(ltOf cf) y x).toArray).size<=cur.size:=by rw[hFs,hsz];exact Nat.mul_le_mul_right k hn
 subst h2;refine⟨_,OW hb,by unfold putCells;rw[Array.size_mapIdx],?_,U8⟩
 rw[Mt hFc,<-hFs,<-Array.length_toList,List.take_left,hflat]
theorem acW{f g e:Nat}{cf:α->α->Int}{p1:α->PV}(hS:KL P f)(hp:∀x,u6 (p1 x)=true)(hO:Go.Sort.SWO (ltOf cf))(hT:∀x y,(ltOf cf) x y=false->(ltOf cf) y x=false->x=y)
  (eg:∀args w,(callFunc g args).run P w= .ok (.enter g args) w) (hc:XV P g (fun x=>nq (p1 x)) cf):Rq P f g e 1 (fun x=>[p1 x]) fun x y=> !(ltOf cf) y x:=by
 intro w b cap xs cur hb hsx hn hcap hsz htake;have hlt:b<w.heap.size:=(Array.getElem?_eq_some_iff.1 hb).1
 have hflat:∀l:List α,(l.toArray.map fun x=>nq (p1 x)).toList=l.flatMap (mU fun x=>[p1 x]):=fun l=>by
  induction l with
  |nil=>simp
  |cons x l ih=>
   rw[List.flatMap_cons,<-ih];simp[mU]
 have hcs:CmpLays1 P g #[] (fun x=>nq (p1 x)) cf b 0 xs.toArray.size w:=fun m os dk _ x y=>hc x y _
 have hF:=J6 (xs:=xs) (cap:=cap) (F:=xs.toArray.map fun x=>nq (p1 x)) hb (by rw[hflat,Array.size_map,List.size_toArray,<-Nat.mul_one xs.length];exact htake.symm)
 have hH:Holds (fun x=>nq (p1 x)) w b 0 xs.toArray:=by
  intro j hj;have h1:=hF j (by rw[Array.size_map];exact hj)
  rw[getElem!_pos _ j (by rw[Array.size_map];exact hj),Array.getElem_map]at h1
  rw[getElem!_pos _ j hj];exact h1
 have:=hS α (fun x=>nq (p1 x)) (fun x=>My (hp x)) cf hO g #[] b 0 cap xs.toArray w eg hcs hH hlt (by rw[List.size_toArray];exact hsx) hT
 refine this.mono fun en w' ⟨h1,n,os,h2⟩=>⟨h1,?_⟩
 have hms:(xs.mergeSort fun x y=> !(ltOf cf) y x).length=xs.length:=List.length_mergeSort xs
 have hput:∀(W:World) (d:Array α),putRow (fun x=>nq (p1 x)) W b 0 d=putRow id W b 0 (d.map fun x=>nq (p1 x)):=fun W d=>by
  unfold putRow;congr 1
  funext c
  unfold putCells;apply Array.ext_getElem?;intro i;simp only[Array.getElem?_mapIdx,Array.size_map,QS,true_and,Nat.zero_add,Nat.sub_zero,id]
  cases c[i]? with
  |none=>rfl
  |some y=>
   simp only[Qe]
   by_cases hi:i<d.size
   ·rw[Qr hi,Qr hi,getElem!_pos d i hi,getElem!_pos _ i (by rw[Array.size_map];exact hi),Array.getElem_map]
   ·rw[Qs hi,Qs hi]
 unfold sortWorld at h2;rw[hput]at h2;have hFs:((xs.mergeSort fun x y=> !(ltOf cf) y x).toArray.map fun x=>nq (p1 x)).size=xs.length*1:=by rw[Array.size_map,List.size_toArray,hms,Nat.mul_one]
 have hFc:((xs.mergeSort fun x y=> !(ltOf cf) y x).toArray.map fun x=>nq (p1 x)).size<=cur.size:=by rw[hFs,hsz];exact Nat.mul_le_mul_right 1 hn
 subst h2;refine⟨_,OW hb,by unfold putCells;rw[Array.size_mapIdx],?_,U8⟩
 rw[Mt hFc,<-hFs,<-Array.length_toList,List.take_left,hflat]
end
theorem S7{P:Program}{g:Nat}{α:Type}{va:α->PV}{val:α->Value}{cf:α->α->Int}(hval:∀(x:α) (w:World) (M:Nat->Prop),aW w M cU (va x) (val x))(h:∀x y,Wf P g false [] [va x,va y] (.int .i64 (cf x y)) []):XV P g val cf:=by
 intro x y w;have:=h x y w (fun _=>False) (fun b hb=>hb.elim) 0 0 [] [val x,val y] (fun e=>by cases e) (.cons (hval x w _) (.cons (hval y w _) .nil))
 refine this.mono fun en w' ⟨v,rvs,h1,h2,_,h4⟩=> ?_
 rw[h2.fb]at h1;exact⟨h1,ZA h4⟩
end Go.TQ
end
noncomputable section
namespace Go.TQ
open Go.Proofs Go.Sort
def Fc{α:Type}(c:α->α->Option Int)(x y:α):Int:=(c x y).getD 0
structure Yv {α:Type} (c:α->α->Option Int):Prop where
 some:∀x y,c x y=some (Fc c x y)
 ord:Go.Sort.SWO (ltOf (Fc c))
 tot:∀x y,ltOf (Fc c) x y=false->ltOf (Fc c) y x=false->x=y
open Classical in
 def yH{α:Type}(c:α->α->Option Int)(s:List α):Option (Unit×List α):=if Yv c/\s.length<4611686018427387904 then some ((),s.mergeSort fun x y=> !(ltOf (Fc c)) y x)else none
section
variable {P : Program} {f g e k : Nat} {T : Ty} {F : T.den × T.den × Unit -> Option Int} (hent : Enters P f) (h0 : Fl P f) (hgs : dm.Sound P (U := U) (.fn g [.ty T, .ty T] (.one (Ty.i .i64)) F)) (hi : Inhabited T.den) (hp : ∀ x : T.den, (T.pv x).all u6 = true)
 include hent h0 hgs hi hp
theorem abx(hS:Rr P f k)(hk0:0<k)(hk:∀x:T.den,(T.pv x).length=k)(hv:∀x:T.den,da (U:=U) T x= .agg (T.pv x)):
  dm.Sound P (U:=U) (.rw f e k T [.bA g []] (.many []) fun s a=>yH (fun x y=>F (x,y,())) s):=by
 refine⟨hent,fun xs a r ys h=> ?_⟩
 have h:yH (fun x y=>F (x,y,())) xs=some (r,ys):=h
 unfold yH at h;split at h
 ·rename_i hc;injection h with h
  injection h with _ h2
  subst h2;refine Sf h0 (acV hS hk0 hk hp hc.1.ord hc.1.tot (fun args w=>ot hgs.1 args) ?_) hk0 hk hp xs hc.2
  refine S7 (va:=fun x=> .agg (T.pv x)) (fun x w M=> .agg _ _ (by rw[mU,QC]) fun i y v h1 h2=> ?_) fun x y=> ?_
  ·rw[mU,QT,h1]at h2;injection h2 with h2
   rw[<-h2];exact Ex (QH.1 (hp x) y (List.mem_of_getElem? h1))
  ·have:=hgs.2 (x,y,()) _ (hc.1.some x y);rw[show fU (U:=U) [.ty T,.ty T] (x,y,())=[.agg (T.pv x),.agg (T.pv y)]by rw[<-hv x,<-hv y];rfl]at this
   exact this
 ·cases h
theorem X3(hS:KL P f)(hv:∀x:T.den,T.pv x=[da (U:=U) T x]):
  dm.Sound P (U:=U) (.rw f e 1 T [.bA g []] (.many []) fun s a=>yH (fun x y=>F (x,y,())) s):=by
 refine⟨hent,fun xs a r ys h=> ?_⟩
 have h:yH (fun x y=>F (x,y,())) xs=some (r,ys):=h
 unfold yH at h;split at h
 ·rename_i hc;injection h with h
  injection h with _ h2
  subst h2;have hp1:∀x:T.den,u6 (da (U:=U) T x)=true:=fun x=>by have:=hp x;rw[hv x]at this;simpa using this
  have hpv:(fun x:T.den=>T.pv x)=fun x=>[da (U:=U) T x]:=funext hv
  have:=Sf (pv:=fun x:T.den=>[da (U:=U) T x]) (e:=e) h0 (acW hS hp1 hc.1.ord hc.1.tot (fun args w=>ot hgs.1 args) (S7 (va:=fun x=>da (U:=U) T x) (fun x w M=>Ex (hp1 x)) fun x y=>hgs.2 (x,y,()) _ (hc.1.some x y))) (by omega) (fun x=>rfl) (fun x=>by simpa using hp1 x) xs hc.2
  rw[<-hpv]at this;exact this
 ·cases h
end
end Go.TQ
end
noncomputable section
namespace Go.Proofs
open Go.Shelf
def LX:Go.Shelf.Ren:=⟨fun|6=>221|15=>240|14=>239|28=>253|29=>254|20=>245|21=>246|22=>247|23=>248|24=>249|25=>250|26=>251|27=>252|46=>273|47=>274|48=>275|49=>276|50=>277|57=>286|n=>n,fun|22=>101|24=>29|25=>119|3=>3|39=>49|0=>0|53=>208|55=>210|4=>4|46=>201|45=>200|50=>205|5=>5|9=>9|66=>223|70=>227|76=>233|77=>128|n=>n,fun|n=>n⟩
theorem KJ:Go.Proofs.SlLaysF0.n6 Tryz.prog LX:={
 mixed:=by kernel_rfl
 f6:=⟨Tryz.f221.name,by decide,Tryz.func221.trans (congrArg some (by kernel_rfl))⟩
 f14:=⟨Tryz.f239.name,by decide,Tryz.func239.trans (congrArg some (by kernel_rfl))⟩
 f15:=Tryz.func240.trans (congrArg some (by kernel_rfl))
 f20:=⟨Tryz.f245.name,by decide,Tryz.func245.trans (congrArg some (by kernel_rfl))⟩
 f21:=⟨Tryz.f246.name,by decide,Tryz.func246.trans (congrArg some (by kernel_rfl))⟩
 f22:=⟨Tryz.f247.name,by decide,Tryz.func247.trans (congrArg some (by kernel_rfl))⟩
 f23:=⟨Tryz.f248.name,by decide,Tryz.func248.trans (congrArg some (by kernel_rfl))⟩
 f24:=⟨Tryz.f249.name,by decide,Tryz.func249.trans (congrArg some (by kernel_rfl))⟩
 f25:=⟨Tryz.f250.name,by decide,Tryz.func250.trans (congrArg some (by kernel_rfl))⟩
 f26:=⟨Tryz.f251.name,by decide,Tryz.func251.trans (congrArg some (by kernel_rfl))⟩
 f27:=⟨Tryz.f252.name,by decide,Tryz.func252.trans (congrArg some (by kernel_rfl))⟩
 f28:=Tryz.func253.trans (congrArg some (by kernel_rfl))
 f29:=Tryz.func254.trans (congrArg some (by kernel_rfl))
 f46:=⟨Tryz.f273.name,by decide,Tryz.func273.trans (congrArg some (by kernel_rfl))⟩
 f47:=Tryz.func274.trans (congrArg some (by kernel_rfl))
 f48:=Tryz.func275.trans (congrArg some (by kernel_rfl))
 f49:=⟨Tryz.f276.name,by decide,Tryz.func276.trans (congrArg some (by kernel_rfl))⟩
 f50:=⟨Tryz.f277.name,by decide,Tryz.func277.trans (congrArg some (by kernel_rfl))⟩
 f57:=⟨Tryz.f286.name,by decide,Tryz.func286.trans (congrArg some (by kernel_rfl))⟩
 t0:=Tryz.underlying0
 a0:=Tryz.isAgg0
 z0:=Tryz.sizeOf0
 v0:=Tryz.zeroValue0
 t3:=Tryz.underlying3
 a3:=Tryz.isAgg3
 z3:=Tryz.sizeOf3
 v3:=Tryz.zeroValue3
 t4:=Tryz.underlying4
 a4:=Tryz.isAgg4
 z4:=Tryz.sizeOf4
 v4:=Tryz.zeroValue4
 t5:=Tryz.underlying5
 a5:=Tryz.isAgg5
 z5:=Tryz.sizeOf5
 v5:=Tryz.zeroValue5
 t9:=Tryz.underlying9
 a9:=Tryz.isAgg9
 z9:=Tryz.sizeOf9
 v9:=Tryz.zeroValue9
 t22:=Tryz.underlying101
 a22:=Tryz.isAgg101
 z22:=Tryz.sizeOf101
 v22:=Tryz.zeroValue101
 t25:=Tryz.underlying119
 a25:=Tryz.isAgg119
 z25:=Tryz.sizeOf119
 v25:=Tryz.zeroValue119
 t39:=Tryz.underlying49
 a39:=Tryz.isAgg49
 z39:=Tryz.sizeOf49
 v39:=Tryz.zeroValue49
 t45:=Tryz.underlying200
 a45:=Tryz.isAgg200
 z45:=Tryz.sizeOf200
 v45:=Tryz.zeroValue200
 t46:=Tryz.underlying201
 a46:=Tryz.isAgg201
 z46:=Tryz.sizeOf201
 v46:=Tryz.zeroValue201
 t50:=Tryz.underlying205
 a50:=Tryz.isAgg205
 z50:=Tryz.sizeOf205
 v50:=Tryz.zeroValue205
 t53:=Tryz.underlying208
 a53:=Tryz.isAgg208
 z53:=Tryz.sizeOf208
 v53:=Tryz.zeroValue208
 t55:=Tryz.underlying210
 a55:=Tryz.isAgg210
 z55:=Tryz.sizeOf210
 v55:=Tryz.zeroValue210
 t66:=Tryz.underlying223
 a66:=Tryz.isAgg223
 z66:=Tryz.sizeOf223
 v66:=Tryz.zeroValue223
 t70:=Tryz.underlying227
 a70:=Tryz.isAgg227
 z70:=Tryz.sizeOf227
 v70:=Tryz.zeroValue227
 t76:=Tryz.underlying233
 a76:=Tryz.isAgg233
 z76:=Tryz.sizeOf233
 v76:=Tryz.zeroValue233
 t77:=Tryz.underlying128
 a77:=Tryz.isAgg128
 z77:=Tryz.sizeOf128
 v77:=Tryz.zeroValue128}
def BV:Go.Shelf.Ren:=⟨fun|6=>227|15=>240|14=>242|28=>253|29=>254|20=>256|21=>257|22=>258|23=>259|24=>260|25=>261|26=>262|27=>263|46=>280|47=>274|48=>275|49=>281|50=>282|57=>287|n=>n,fun|22=>94|24=>9|25=>139|3=>3|39=>49|0=>0|53=>208|55=>210|4=>4|46=>201|45=>200|50=>205|5=>5|9=>9|66=>223|70=>227|76=>233|77=>128|n=>n,fun|n=>n⟩
theorem KI:Go.Proofs.SlLaysF.n6 Tryz.prog BV:={
 mixed:=by kernel_rfl
 f6:=⟨Tryz.f227.name,by decide,Tryz.func227.trans (congrArg some (by kernel_rfl))⟩
 f14:=⟨Tryz.f242.name,by decide,Tryz.func242.trans (congrArg some (by kernel_rfl))⟩
 f15:=Tryz.func240.trans (congrArg some (by kernel_rfl))
 f20:=⟨Tryz.f256.name,by decide,Tryz.func256.trans (congrArg some (by kernel_rfl))⟩
 f21:=⟨Tryz.f257.name,by decide,Tryz.func257.trans (congrArg some (by kernel_rfl))⟩
 f22:=⟨Tryz.f258.name,by decide,Tryz.func258.trans (congrArg some (by kernel_rfl))⟩
 f23:=⟨Tryz.f259.name,by decide,Tryz.func259.trans (congrArg some (by kernel_rfl))⟩
 f24:=⟨Tryz.f260.name,by decide,Tryz.func260.trans (congrArg some (by kernel_rfl))⟩
 f25:=⟨Tryz.f261.name,by decide,Tryz.func261.trans (congrArg some (by kernel_rfl))⟩
 f26:=⟨Tryz.f262.name,by decide,Tryz.func262.trans (congrArg some (by kernel_rfl))⟩
 f27:=⟨Tryz.f263.name,by decide,Tryz.func263.trans (congrArg some (by kernel_rfl))⟩
 f28:=Tryz.func253.trans (congrArg some (by kernel_rfl))
 f29:=Tryz.func254.trans (congrArg some (by kernel_rfl))
 f46:=⟨Tryz.f280.name,by decide,Tryz.func280.trans (congrArg some (by kernel_rfl))⟩
 f47:=Tryz.func274.trans (congrArg some (by kernel_rfl))
 f48:=Tryz.func275.trans (congrArg some (by kernel_rfl))
 f49:=⟨Tryz.f281.name,by decide,Tryz.func281.trans (congrArg some (by kernel_rfl))⟩
 f50:=⟨Tryz.f282.name,by decide,Tryz.func282.trans (congrArg some (by kernel_rfl))⟩
 f57:=⟨Tryz.f287.name,by decide,Tryz.func287.trans (congrArg some (by kernel_rfl))⟩
 t0:=Tryz.underlying0
 a0:=Tryz.isAgg0
 z0:=Tryz.sizeOf0
 v0:=Tryz.zeroValue0
 t3:=Tryz.underlying3
 a3:=Tryz.isAgg3
 z3:=Tryz.sizeOf3
 v3:=Tryz.zeroValue3
 t4:=Tryz.underlying4
 a4:=Tryz.isAgg4
 z4:=Tryz.sizeOf4
 v4:=Tryz.zeroValue4
 t5:=Tryz.underlying5
 a5:=Tryz.isAgg5
 z5:=Tryz.sizeOf5
 v5:=Tryz.zeroValue5
 t9:=Tryz.underlying9
 a9:=Tryz.isAgg9
 z9:=Tryz.sizeOf9
 v9:=Tryz.zeroValue9
 t22:=Tryz.underlying94
 a22:=Tryz.isAgg94
 z22:=Tryz.sizeOf94
 v22:=Tryz.zeroValue94
 a24:=Tryz.isAgg9
 z24:=Tryz.sizeOf9
 t25:=Tryz.underlying139
 a25:=Tryz.isAgg139
 z25:=Tryz.sizeOf139
 v25:=Tryz.zeroValue139
 t39:=Tryz.underlying49
 a39:=Tryz.isAgg49
 z39:=Tryz.sizeOf49
 v39:=Tryz.zeroValue49
 t45:=Tryz.underlying200
 a45:=Tryz.isAgg200
 z45:=Tryz.sizeOf200
 v45:=Tryz.zeroValue200
 t46:=Tryz.underlying201
 a46:=Tryz.isAgg201
 z46:=Tryz.sizeOf201
 v46:=Tryz.zeroValue201
 t50:=Tryz.underlying205
 a50:=Tryz.isAgg205
 z50:=Tryz.sizeOf205
 v50:=Tryz.zeroValue205
 t53:=Tryz.underlying208
 a53:=Tryz.isAgg208
 z53:=Tryz.sizeOf208
 v53:=Tryz.zeroValue208
 t55:=Tryz.underlying210
 a55:=Tryz.isAgg210
 z55:=Tryz.sizeOf210
 v55:=Tryz.zeroValue210
 t66:=Tryz.underlying223
 a66:=Tryz.isAgg223
 z66:=Tryz.sizeOf223
 v66:=Tryz.zeroValue223
 t70:=Tryz.underlying227
 a70:=Tryz.isAgg227
 z70:=Tryz.sizeOf227
 v70:=Tryz.zeroValue227
 t76:=Tryz.underlying233
 a76:=Tryz.isAgg233
 z76:=Tryz.sizeOf233
 v76:=Tryz.zeroValue233
 t77:=Tryz.underlying128
 a77:=Tryz.isAgg128
 z77:=Tryz.sizeOf128
 v77:=Tryz.zeroValue128}
def BU:Go.Shelf.Ren:=⟨fun|6=>229|15=>240|14=>243|28=>253|29=>254|20=>264|21=>265|22=>266|23=>267|24=>268|25=>269|26=>270|27=>271|46=>283|47=>274|48=>275|49=>284|50=>285|57=>288|n=>n,fun|22=>22|24=>3|25=>43|3=>3|39=>49|0=>0|53=>208|55=>210|4=>4|46=>201|45=>200|50=>205|5=>5|9=>9|66=>223|70=>227|76=>233|77=>128|n=>n,fun|n=>n⟩
theorem KH:Go.Proofs.SlLaysF.n6 Tryz.prog BU:={
 mixed:=by kernel_rfl
 f6:=⟨Tryz.f229.name,by decide,Tryz.func229.trans (congrArg some (by kernel_rfl))⟩
 f14:=⟨Tryz.f243.name,by decide,Tryz.func243.trans (congrArg some (by kernel_rfl))⟩
 f15:=Tryz.func240.trans (congrArg some (by kernel_rfl))
 f20:=⟨Tryz.f264.name,by decide,Tryz.func264.trans (congrArg some (by kernel_rfl))⟩
 f21:=⟨Tryz.f265.name,by decide,Tryz.func265.trans (congrArg some (by kernel_rfl))⟩
 f22:=⟨Tryz.f266.name,by decide,Tryz.func266.trans (congrArg some (by kernel_rfl))⟩
 f23:=⟨Tryz.f267.name,by decide,Tryz.func267.trans (congrArg some (by kernel_rfl))⟩
 f24:=⟨Tryz.f268.name,by decide,Tryz.func268.trans (congrArg some (by kernel_rfl))⟩
 f25:=⟨Tryz.f269.name,by decide,Tryz.func269.trans (congrArg some (by kernel_rfl))⟩
 f26:=⟨Tryz.f270.name,by decide,Tryz.func270.trans (congrArg some (by kernel_rfl))⟩
 f27:=⟨Tryz.f271.name,by decide,Tryz.func271.trans (congrArg some (by kernel_rfl))⟩
 f28:=Tryz.func253.trans (congrArg some (by kernel_rfl))
 f29:=Tryz.func254.trans (congrArg some (by kernel_rfl))
 f46:=⟨Tryz.f283.name,by decide,Tryz.func283.trans (congrArg some (by kernel_rfl))⟩
 f47:=Tryz.func274.trans (congrArg some (by kernel_rfl))
 f48:=Tryz.func275.trans (congrArg some (by kernel_rfl))
 f49:=⟨Tryz.f284.name,by decide,Tryz.func284.trans (congrArg some (by kernel_rfl))⟩
 f50:=⟨Tryz.f285.name,by decide,Tryz.func285.trans (congrArg some (by kernel_rfl))⟩
 f57:=⟨Tryz.f288.name,by decide,Tryz.func288.trans (congrArg some (by kernel_rfl))⟩
 t0:=Tryz.underlying0
 a0:=Tryz.isAgg0
 z0:=Tryz.sizeOf0
 v0:=Tryz.zeroValue0
 t3:=Tryz.underlying3
 a3:=Tryz.isAgg3
 z3:=Tryz.sizeOf3
 v3:=Tryz.zeroValue3
 t4:=Tryz.underlying4
 a4:=Tryz.isAgg4
 z4:=Tryz.sizeOf4
 v4:=Tryz.zeroValue4
 t5:=Tryz.underlying5
 a5:=Tryz.isAgg5
 z5:=Tryz.sizeOf5
 v5:=Tryz.zeroValue5
 t9:=Tryz.underlying9
 a9:=Tryz.isAgg9
 z9:=Tryz.sizeOf9
 v9:=Tryz.zeroValue9
 t22:=Tryz.underlying22
 a22:=Tryz.isAgg22
 z22:=Tryz.sizeOf22
 v22:=Tryz.zeroValue22
 a24:=Tryz.isAgg3
 z24:=Tryz.sizeOf3
 t25:=Tryz.underlying43
 a25:=Tryz.isAgg43
 z25:=Tryz.sizeOf43
 v25:=Tryz.zeroValue43
 t39:=Tryz.underlying49
 a39:=Tryz.isAgg49
 z39:=Tryz.sizeOf49
 v39:=Tryz.zeroValue49
 t45:=Tryz.underlying200
 a45:=Tryz.isAgg200
 z45:=Tryz.sizeOf200
 v45:=Tryz.zeroValue200
 t46:=Tryz.underlying201
 a46:=Tryz.isAgg201
 z46:=Tryz.sizeOf201
 v46:=Tryz.zeroValue201
 t50:=Tryz.underlying205
 a50:=Tryz.isAgg205
 z50:=Tryz.sizeOf205
 v50:=Tryz.zeroValue205
 t53:=Tryz.underlying208
 a53:=Tryz.isAgg208
 z53:=Tryz.sizeOf208
 v53:=Tryz.zeroValue208
 t55:=Tryz.underlying210
 a55:=Tryz.isAgg210
 z55:=Tryz.sizeOf210
 v55:=Tryz.zeroValue210
 t66:=Tryz.underlying223
 a66:=Tryz.isAgg223
 z66:=Tryz.sizeOf223
 v66:=Tryz.zeroValue223
 t70:=Tryz.underlying227
 a70:=Tryz.isAgg227
 z70:=Tryz.sizeOf227
 v70:=Tryz.zeroValue227
 t76:=Tryz.underlying233
 a76:=Tryz.isAgg233
 z76:=Tryz.sizeOf233
 v76:=Tryz.zeroValue233
 t77:=Tryz.underlying128
 a77:=Tryz.isAgg128
 z77:=Tryz.sizeOf128
 v77:=Tryz.zeroValue128}
end Go.Proofs
namespace Go.Proofs.YtkgenianmdfmdaaGreat
open Go.TQ Go.Proofs
namespace IF
theorem enters:Go.TQ.Enters Tryz.prog 221:=⟨_,Tryz.func221,by kernel_rfl,by kernel_rfl⟩
theorem none:Fl Tryz.prog 221:=fun p cap fv w=>AnyF.slices_SortFunc_none KJ p cap fv w
theorem IG:Rr Tryz.prog 221 2:=fun α _ bY hk h1 cf hO g cb bS off cap d w eg hc hH hb hsz hT=>AnyQ.slices_SortFunc_total KJ 2 Tryz.isAgg29 Tryz.sizeOf29 bY hk h1 cf hO g cb bS off cap d w eg hc hH hb hsz hT
end IF
namespace IE
theorem enters:Go.TQ.Enters Tryz.prog 227:=⟨_,Tryz.func227,by kernel_rfl,by kernel_rfl⟩
theorem none:Fl Tryz.prog 227:=fun p cap fv w=>AnyF.slices_SortFunc_none (P:=Tryz.prog) (ρ:=BV) {KI with} p cap fv w
theorem IG:KL Tryz.prog 227:=fun α _ bY h1 cf hO g cb bS off cap d w eg hc hH hb hsz hT=>Any.slices_SortFunc_total KI bY h1 cf hO g cb bS off cap d w eg hc hH hb hsz hT
end IE
namespace ID
theorem enters:Go.TQ.Enters Tryz.prog 229:=⟨_,Tryz.func229,by kernel_rfl,by kernel_rfl⟩
theorem none:Fl Tryz.prog 229:=fun p cap fv w=>AnyF.slices_SortFunc_none (P:=Tryz.prog) (ρ:=BU) {KH with} p cap fv w
theorem IG:KL Tryz.prog 229:=fun α _ bY h1 cf hO g cb bS off cap d w eg hc hH hb hsz hT=>Any.slices_SortFunc_total KH bY h1 cf hO g cb bS off cap d w eg hc hH hb hsz hT
end ID
end Go.Proofs.YtkgenianmdfmdaaGreat
end
