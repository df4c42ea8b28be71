/-
  Texts made small by a program (see NOTES). Conditions: those that each theorem names.
-/
import Derived.Test.YtkgenianmdfmdaaGreatMachineAgreeMb
import Derived.KernelRfl
import Derived.Laws.CopyRow
import Derived.Laws.Externs
import Derived.Lib.Overlaps
import Derived.Lib.AppendZerosOnto
import Derived.Laws.NewBlocks
import Derived.Test.YtkgenianmdfmdaaGreatProg
import Derived.Shelf.Spec.SlicesInsert
import Derived.Shelf.SlSortCmp.NoneTotal
set_option linter.unusedVariables false
set_option linter.unusedSimpArgs false
set_option linter.unusedSectionVars false
set_option maxHeartbeats 2000000
noncomputable section
namespace Go.TQ
open Go.RowKit
def mf{σ ρ:Type}(step:σ->Option (σ⊕ρ)):Nat->σ->Option ρ
 |0,_=>none
 |n+1,s=>match step s with
  |none=>none
  |some (.inr r)=>some r
  |some (.inl s')=>mf step n s'
theorem zL{σ ρ:Type}{step:σ->Option (σ⊕ρ)}{r:ρ}:∀{n m:Nat} {s:σ},n<=m->mf step n s=some r->mf step m s=some r
 |0,_,_,_,h=>by cases h
 |n+1,0,_,hnm,_=>by omega
 |n+1,m+1,s,hnm,h=>by
  simp only[mf]at h ⊢;split at h
  ·cases h
  ·exact h
  ·exact zL (by omega) h
theorem PE{σ ρ:Type}{step:σ->Option (σ⊕ρ)}{r r':ρ}{n m:Nat}{s:σ}(h:mf step n s=some r)(h':mf step m s=some r'):r=r':=by
 have h1:=zL (Nat.le_max_left n m) h;have h2:=zL (Nat.le_max_right n m) h';rw[h1]at h2;injection h2
open Classical in
 def aI{σ ρ:Type}(step:σ->Option (σ⊕ρ))(s:σ):Option ρ:=
 if h:∃r,∃n,mf step n s=some r then some (Classical.choose h)else none
theorem u5{σ ρ:Type}{step:σ->Option (σ⊕ρ)}{s:σ}{r:ρ}(h:aI step s=some r):∃n,mf step n s=some r:=by
 unfold aI at h;split at h
 ·rename_i hx;injection h with h
  obtain⟨n,hn⟩:=Classical.choose_spec hx;exact⟨n,by rw[hn,h]⟩
 ·cases h
theorem Ey{σ ρ:Type}{step:σ->Option (σ⊕ρ)}{s:σ}{r:ρ}{n:Nat}(h:mf step n s=some r):aI step s=some r:=by
 unfold aI;have hx:∃r,∃n,mf step n s=some r:=⟨r,n,h⟩;rw[dif_pos hx];obtain⟨m,hm⟩:=Classical.choose_spec hx;rw[PE hm h]
theorem lN{σ ρ:Type}(step:σ->Option (σ⊕ρ))(s:σ):aI step s=match step s with|none=>none|some (.inr r)=>some r|some (.inl s')=>aI step s':=by
 cases hs:step s with
 |none=>
  cases h:aI step s with
  |none=>rfl
  |some r=>
   obtain⟨n,hn⟩:=u5 h
   cases n with
   |zero=>cases hn
   |succ n=>simp[mf,hs]at hn
 |some x=>
  cases x with
  |inr r=>exact Ey (n:=1) (by simp[mf,hs])
  |inl s'=>
   simp only
   cases h':aI step s' with
   |some r=>
    obtain⟨n,hn⟩:=u5 h';exact Ey (n:=n+1) (by simp only[mf,hs];exact hn)
   |none=>
    cases h:aI step s with
    |none=>rfl
    |some r=>
     obtain⟨n,hn⟩:=u5 h
     cases n with
     |zero=>cases hn
     |succ n=>simp only[mf,hs]at hn;rw[Ey hn]at h';cases h'
open Classical in
 def both{ρ:Type}(x y:Option ρ):Option ρ:=if x=y then x else none
theorem Q7{ρ:Type}{x y:Option ρ}{r:ρ}(h:both x y=some r):x=some r/\y=some r:=by
 unfold both at h;split at h
 ·rename_i e;exact⟨h,e▸h⟩
 ·cases h
@[simp] theorem Xz {ρ:Type} (x:Option ρ):both x x=x:=Qr rfl
def bL{σ ρ:Type}(j:σ->Option ρ)(f:(σ->Option ρ)->Option ρ):Option ρ:=f j
def jC{α σ ρ:Type}(step:Nat->α->σ->Option (σ⊕ρ))(fin:σ->Option ρ):List α->σ->Option ρ
 |[],s=>fin s
 |a::l,s=>match step l.length a s with
  |none=>none
  |some (.inr r)=>some r
  |some (.inl s')=>jC step fin l s'
section
variable {U : TU}
inductive SA (U:TU) where
 |skip
 |pf (rs:RS U)
 |nT (un:List (Nat×Nat)) (rs:RS U)
 |seq (x y:SA U)
 |join (J:JS U) (x y:SA U)
 |cond (c:aP) (x y:SA U)
 |block (id:Nat) (x:SA U)
 |loop (J:JS U) (x:SA U)
 |OV (n:Nat) (x:SA U)
 |back (J:JS U) (f k:Nat) (nE:Option Nat) (T:U.Ty) (tg p0 p1:Nat) (x y:SA U)
 |exit (id:Nat)
 |ret
 |ps (p:Ps U) (x:SA U)
 |DB (p:Ps U) (x:SA U)
def SA.erase:SA U->SC
 | .skip=> .skip
 | .pf rs=> .pf rs.flat
 | .nT un rs=> .nT un rs.flat
 | .seq x y=> .seq x.erase y.erase
 | .join _ x y=> .seq x.erase y.erase
 | .cond c x y=> .cond c x.erase y.erase
 | .block id x=> .block id x.erase
 | .loop _ x=> .loop x.erase
 | .OV _ x=> .loop x.erase
 | .back _ _ _ _ _ tg p0 p1 x y=> .yk (.tmp tg) [p0,p1] x.erase y.erase
 | .exit id=> .exit id
 | .ret=> .ret
 | .ps _ x=>x.erase
 | .DB _ x=>x.erase
def SA.cI:SA U->Bool
 | .pf rs=>rs.cI
 | .nT _ rs=>rs.cI
 | .seq x y=>x.cI&&y.cI
 | .join _ x y=>x.cI&&y.cI
 | .cond c x y=>c.cI&&x.cI&&y.cI
 | .block _ x=>x.cI
 | .loop _ x=>x.cI
 | .OV _ x=>x.cI
 | .back _ _ _ _ _ _ _ _ x y=>x.cI&&y.cI
 | .ps _ x=>x.cI
 | .DB _ x=>x.cI
 |_=>true
variable (K : TK U)
def wZ(Γ:List (cD U)){ρ:Type}(W:WS)(base:Nat):RS U->(i:Nat)->(S:aH U)->(k:aH U->List pN->Option ρ)->Option ρ
 | .nil,_,S,k=>k S []
 | .op o r,i,S,k=>Oe K Γ W (base+i) S o fun x wr=>wZ Γ W base r (i+1) (S.bN o.d x wr) fun S' fs=>k S' (⟨o.d,o.bx,yD (base+i) S.st o,wr.map (·.1)⟩::fs)
 | .uz t r,i,S,k=>(match S.env t with
  | .bool b=>bif b then wZ Γ W base r i (S.bN (some t) (.bool true) none) k else wZ Γ W base r i (S.bN (some t) (.bool false) none) k
  | .undef=>wZ Γ W base r i S k
  |_=>none)
 |_,_,_,_=>none
def BC(F:List Nat)(ds:List Nat):Bool:=ds.all fun t=> !fG t F
def aH.more(S:aH U)(n:Nat):aH U:={env:=S.env,H:=S.H,N:=S.N+n}
def aH.eA(S:aH U)(D:List Nat):aH U:={env:=fun t=>(match fG t D with|true=> .any|false=>S.env t),H:=S.H,N:=S.N}
def NP(U:TU)(T:U.Ty):Option Nat->Bool
 |none=> !U.agg T
 |some n=>U.agg T&&Nat.beq n (U.size T)
def JP{ρ:Type}(f:(aH U->Option ρ)->aH U->Option ρ):Nat->aH U->Option ρ
 |0,_=>none
 |n+1,S=>f (JP f n) S
 def kK(Γ:List (cD U)):SA U->{ρ:Type}->(F:List Nat)->(W:WS)->(k:Exit->aH U->Option ρ)->(S:aH U)->Option ρ
 | .skip,_,_,_,k,S=>k .normal S
 | .pf rs,_,F,W,k,S=>(match BC F rs.gL with
  |true=>mR K Γ rs W S.N (S.more rs.len) fun S'=>k .normal S'
  |false=>none)
 | .nT un rs,_,F,W,k,S=>(match BC F rs.gL with
  |true=>wZ K Γ W S.N rs 0 (S.more rs.len) fun S' fs=>(match un.all (fun p=>match fs[p.1]?,fs[p.2]? with|some a,some b=>wb a b|_,_=>false)with
   |true=>k .normal S'
   |false=>none)
  |false=>none)
 | .seq x y,_,F,W,k,S=>kK Γ x F W (fun e S'=>match e with
  | .normal=>kK Γ y F W k S'
  |e=>k e S') S
 | .join J x y,_,F,W,k,S=>(match oH S J F W with
  |true=>bL (fun v=>kK Γ y F W k (unpack K S J v)) fun j=>kK Γ x J.da (some (S.N,dO J.items)) (fun e S'=>match e with
   | .normal=>(match pack K S' J.items with|some v=>j v|none=>none)
   |e=>k e S') S
  |false=>none)
 | .cond c x y,_,F,W,k,S=>(match c.bO S with
  | .bool b=>bif b then kK Γ x F W k S else kK Γ y F W k S
  | .eL=>both (kK Γ x F W k S) (kK Γ y F W k S)
  |_=>none)
 | .block id x,_,F,W,k,S=>kK Γ x F W (fun e S'=>match e with
  | .exit i=>(match Nat.beq i id with|true=>k .normal S'|false=>k (.exit i) S')
  |e=>k e S') S
 | .loop J x,_,F,W,k,S=>(match oH S J F W with
  |true=>(match pack K S J.items with
   |some v0=>aI (fun v=>kK Γ x J.da (some (S.N,dO J.items)) (fun e S'=>match e with
    | .normal=>(match pack K S' J.items with|some v=>some (Sum.inl v)|none=>none)
    |e=>(k e S').map Sum.inr) (unpack K S J v)) v0
   |none=>none)
  |false=>none)
 | .OV n x,_,F,W,k,S=>JP (fun ih S=>kK Γ x F W (fun e S'=>match e with| .normal=>ih S'|e=>k e S') S) n S
 | .back J f kk nE T tg p0 p1 x y,_,F,W,k,S=>
  let D:=SC.n5 (.yk (.tmp tg) [p0,p1] x.erase y.erase)
  (match Gu f kk nE Γ&&Nat.beq (U.size T) kk&&NP U T nE&&fG tg J.da&&BC J.da D&&BC F D&&oH (S.eA D) J F W with
  |true=>(match S.env tg with
   | .bg f' [.ref [.sl T' xs']]=>(match Nat.beq f' f with
    |true=>(match tJ T' T xs' with
     |some xs=>(match pack K (S.eA D) J.items with
      |some v0=>jC (fun m a v=>kK Γ x J.da (some (S.N,dO J.items)) (fun e S1=>match e with
       | .normal=>kK Γ y J.da (some (S.N,dO J.items)) (fun e S'=>match e with
        | .normal=>(match pack K (S'.eA D) J.items with|some v=>some (Sum.inl v)|none=>none)
        | .ret=>(k .ret (S'.eA D)).map Sum.inr
        | .exit i=>(k (.exit i) (S'.eA D)).map Sum.inr
        |_=>none) S1
       |_=>none) {(unpack K (S.eA D) J v)with env:=fm (fm (unpack K (S.eA D) J v).env p0 (.int .i64 m)) p1 (qv K T a)}) (fun v=>k .normal (unpack K (S.eA D) J v)) xs.reverse v0
      |none=>none)
     |none=>none)
    |false=>none)
   |_=>none)
  |false=>none)
 | .exit id,_,_,_,k,S=>k (.exit id) S
 | .ret,_,_,_,k,S=>k .ret S
 | .ps p x,_,F,W,k,S=>(match(p.zq S).all (okW W)&&BC F p.tmps with
  |true=>(match p.run S with|some S'=>kK Γ x F W k S'|none=>none)
  |false=>none)
 | .DB p x,_,F,W,k,S=>kK Γ x F W (fun e S'=>match e with
  | .normal=>(match(p.zq S').all (okW W)&&BC F p.tmps with
   |true=>(match p.run S' with|some S1=>k .normal S1|none=>none)
   |false=>none)
  |e=>k e S') S
structure gg (F:List Nat) (W:WS) (S S':aH U):Prop where
 env:∀t∈F,S'.env t=S.env t
 H:∀id,okW W id=false->S'.H id=S.H id
 N:S.N<=S'.N
theorem gg.refl(F:List Nat)(W:WS)(S:aH U):gg F W S S:=⟨fun _ _=>rfl,fun _ _=>rfl,QI _⟩
theorem gg.trans{F:List Nat}{W:WS}{S S' S'':aH U}(h:gg F W S S')(h':gg F W S' S''):gg F W S S'':=
 ⟨fun t ht=>(h'.env t ht).trans (h.env t ht),fun id hid=>(h'.H id hid).trans (h.H id hid),QK h.N h'.N⟩
theorem uK.toC{D F:List Nat}{W:WS}{S S':aH U}(h:uK D W S S')(ho:BC F D=true):gg F W S S':=
 ⟨fun t ht=>h.env t (fun hd=>by have h1:=QH.1 ho t hd;rw[dq.2 ht]at h1;cases h1),h.H,h.N⟩
theorem gg.more{F:List Nat}{W:WS}{S S':aH U}{n:Nat}(h:gg F W (S.more n) S'):gg F W S S':=
 ⟨h.env,h.H,QK (Nat.le_add_right _ _) h.N⟩
variable {K}
variable {P : Program} {nt : Nat}
theorem M9{sc:SC}{Q:Exit->St->Prop}{S S':St}(hw:∀(E:En) (a:Act) (w:World) (L:Nat->Value),Rel E S a w L->∃L',Rel E S' a w L')(h:VS P nt sc Q S'):VS P nt sc Q S:=
 fun c hs hc E hE hk a w L hr=>by
  obtain⟨L',h'⟩:=hw E a w L hr;exact h c hs hc E hE hk a w L' h'
theorem UZ{sc:SC}{Q Q':Exit->St->Prop}{S:St}(h:VS P nt sc Q' S)(hq:∀e A,Q' e A->∃A',Q e A'/\∀(E:En) (a:Act) (w:World) (L:Nat->Value),Rel E A a w L->∃L',Rel E A' a w L'):VS P nt sc Q S:=
 fun c hs hc E hE hk a w L hr=>wpIn_mono (h c hs hc E hE hk a w L hr) fun _ _ _ ⟨S',L',h1,h2⟩=>by
  obtain⟨A',h3,h4⟩:=hq _ _ h2;obtain⟨L'',h5⟩:=h4 _ _ _ _ h1;exact⟨A',L'',h5,h3⟩
theorem UY{Γ:List (cD U)}(hΓ:oM P Γ){rs:RS U}{W:WS}{ρ:Type}{k:aH U->Option ρ}{r:ρ}{S:aH U}(hok:rs.cI=true)(hr:mR K Γ rs W S.N (S.more rs.len) k=some r){Q:Exit->St->Prop}
  (h:∀S',uK rs.gL W (S.more rs.len) S'->k S'=some r->Q .normal S'.st):VS P nt (.pf rs.flat) Q S.st:=by
 intro c hs hc
 cases c with
 |region id ops d=>
  cases d with
  |true=>simp only[ay]at hc;(try split at hc)<;>(try split at hc)<;>(try split at hc)<;>cases hc
  |false=>
   simp only[ay]at hc;split at hc
   ·rename_i gs' hgs;split at hc
    ·rename_i hd;injection hc with hc
     injection hc with hc
     subst hc;intro E hE hk a w L hrel;refine wpIn_region_list ?_;have h0:Rel E (S.more rs.len).st a w L:=hrel.room rs.len;have:=lp (K:=K) (E:=E) hΓ (ops:=ops) (Q:=fun e a' w'=>∃S' L',Rel E S' a' w' L'/\Q e S') rs W S.N (S.more rs.len) k r ops.toList [] a w L hok hgs h0 (QI _) (Lm hE hk (GD hd)) hr (fun S' a' w' L' hf h' hk'=>⟨S'.st,L',h',h S' hf hk'⟩)
     simpa using this
    ·cases hc
   ·cases hc
 |seq x y=>simp only[ay]at hc;split at hc<;>cases hc
 |cond c x y=>simp only[ay]at hc;split at hc<;>cases hc
 |block id c=>simp only[ay,Qb]at hc;obtain⟨_,_,hc⟩:=hc;cases hc
 |loop c=>simp only[ay,Qb]at hc;obtain⟨_,_,hc⟩:=hc;cases hc
 |rangeFunc g ps x y=>simp only[ay]at hc;split at hc<;>(try split at hc)<;>cases hc
 |_=>simp only[ay]at hc<;>cases hc
theorem FH{Γs Γs':Nat->kL}{base:Nat}:∀(l:List (Nat×SG)) (S:St),(∀p∈l,Γs p.1=Γs' p.1)->kD Γs base l S=kD Γs' base l S
 |[],_,_=>rfl
 |(i,g)::l,S,h=>by
  simp only[kD,h (i,g) (by simp)]
  split
  ·rfl
  ·rename_i p hp;rw[FH l _ fun q hq=>h q (Qy _ hq)]
theorem pZ{Γ:List (cD U)}(hΓ:oM P Γ){W:WS}{base:Nat}{ρ:Type}{r:ρ}:∀(rs:RS U) (i:Nat) (S:aH U) (k:aH U->List pN->Option ρ),rs.cI=true->wZ K Γ W base rs i S k=some r->
  ∃(Γs:Nat->kL) (S':aH U) (fs:List pN),(∀j,iG P (Γs j))/\kD Γs base ((rs.flat.zipIdx i).map fun p=>(p.2,p.1)) S.st=some (S'.st,fs)/\uK rs.gL W S S'/\k S' fs=some r
 | .nil,i,S,k,_,h=>⟨fun _ _=>none,S,[],fun _=>NN,rfl,uK.refl _ _ _,h⟩
 | .op o rs,i,S,k,hok,h=>by
  simp only[RS.cI,Qm]at hok;simp only[wZ]at h;obtain⟨Γ',x,wr,h1,h2,h3,h4⟩:=GC hΓ hok.1 h;obtain⟨Γs,S',fs,h5,h6,h7,h8⟩:=pZ hΓ rs (i+1) _ _ hok.2 h4;refine⟨fun j=>if j=i then Γ' else Γs j,S',_,fun j=> ?_,?_,?_,h8⟩
  ·simp only;split
   ·exact h1
   ·exact h5 j
  ·simp only[RS.flat,List.zipIdx_cons,QD,kD,Qt,h2]
   have:kD (fun j=>if j=i then Γ' else Γs j) base ((rs.flat.zipIdx (i+1)).map fun p=>(p.2,p.1)) (S.st.bN o.d x.pv (wr.map gS))=some (S'.st,fs):=by
    rw[<-AW,<-h6];refine FH _ _ fun p hp=> ?_
    obtain⟨q,hq,rfl⟩:=QP.1 hp;have:=List.mem_zipIdx hq;simp only;rw[Qs (by omega)]
   rw[this];simp only[xI]
   cases wr with
   |none=>rfl
   |some p=>rfl
  ·refine(M6 S W o.d x wr h3).trans h7 fun t ht=> ?_
   simp only[RS.gL]at ht
   cases hdd:o.d with
   |none=>rw[hdd]at ht;exact⟨by simp,ht⟩
   |some d=>rw[hdd]at ht;simp only[QA,not_or]at ht;exact⟨by simpa using fun e=>ht.1 e,ht.2⟩
 | .uz t rs,i,S,k,hok,h=>by
  simp only[wZ]at h;split at h
  ·rename_i b hb
   cases b with
   |true=>rw[Qk,wz hb]at h;exact pZ hΓ rs i S k hok h
   |false=>rw[Ql,wz hb]at h;exact pZ hΓ rs i S k hok h
  ·exact pZ hΓ rs i S k hok h
  ·cases h
 | .ps _ _,_,_,_,_,h=>by cases h
 | .ite _ _ _ _ _ _ _ _,_,_,_,_,h=>by cases h
theorem UW{c:Code}{Q:Exit->St->Prop}{S:St}(I:Nat->St->Prop)(m0:Nat){S0:St}(hw0:∀(E:En) (a:Act) (w:World) (L:Nat->Value),Rel E S a w L->∃L',Rel E S0 a w L')(h0:I m0 S0)
  (hr:∀m S,I m S->V P nt c (fun e S'=>match e with| .normal=>∃m',m'<m/\∃S'',(∀(E:En) (a:Act) (w:World) (L:Nat->Value),Rel E S' a w L->∃L',Rel E S'' a w L')/\I m' S''|e=>Q e S') S):V P nt (.loop c) Q S:=fun E hE hk a w L hrel=>by
 refine wpIn_loop_ghost (fun m a w=>∃S L,I m S/\Rel E S a w L) m0 ?_ ?_
 ·obtain⟨L',h'⟩:=hw0 E a w L hrel;exact⟨S0,L',h0,h'⟩
 rintro m a w ⟨S1,L1,hI,h1⟩;refine wpIn_mono (hr m S1 hI E hE hk a w L1 h1) ?_;rintro e a' w' ⟨S',L',h2,h3⟩
 cases e with
 |normal=>
  obtain⟨m',hlt,S'',hw,hI'⟩:=h3;obtain⟨L'',h4⟩:=hw E a' w' L' h2;exact⟨m',hlt,S'',L'',hI',h4⟩
 |exit i=>exact⟨S',L',h2,h3⟩
 |goto l=>exact⟨S',L',h2,h3⟩
 |ret=>exact⟨S',L',h2,h3⟩
 |panic c=>exact⟨S',L',h2,h3⟩
 |outgrown=>exact⟨S',L',h2,h3⟩
theorem Ly{x:SC}{Q:Exit->St->Prop}{S:St}(I:Nat->St->Prop)(m0:Nat){S0:St}(hw0:∀(E:En) (a:Act) (w:World) (L:Nat->Value),Rel E S a w L->∃L',Rel E S0 a w L')(h0:I m0 S0)
  (hr:∀m S,I m S->VS P nt x (fun e S'=>match e with| .normal=>∃m',m'<m/\∃S'',(∀(E:En) (a:Act) (w:World) (L:Nat->Value),Rel E S' a w L->∃L',Rel E S'' a w L')/\I m' S''|e=>Q e S') S):VS P nt (.loop x) Q S:=by
 intro c hs hc
 cases c with
 |loop p=>
  simp only[ay,Qb]at hc;obtain⟨x',hx,hc⟩:=hc;injection hc with h1
  subst h1;exact UW I m0 hw0 h0 (fun m S hI=>hr m S hI p hs hx)
 |region id ops d=>cases d<;>simp only[ay]at hc<;>(try split at hc)<;>(try split at hc)<;>(try split at hc)<;>cases hc
 |seq x y=>simp only[ay]at hc;split at hc<;>cases hc
 |cond c x y=>simp only[ay]at hc;split at hc<;>cases hc
 |block id c=>simp only[ay,Qb]at hc;obtain⟨_,_,hc⟩:=hc;cases hc
 |rangeFunc g ps x y=>simp only[ay]at hc;split at hc<;>(try split at hc)<;>cases hc
 |_=>simp only[ay]at hc<;>cases hc
theorem Ex{S:aH U}{J:JS U}{F:List Nat}{W:WS}(hchk:oH S J F W=true)(v:nc J.items):gg F W S (unpack K S J v):=by
 simp only[oH,Qm,QH]at hchk;obtain⟨⟨⟨⟨⟨⟨hnd,hids⟩,hokv⟩,hkeep⟩,hobj⟩,hF⟩,hW⟩:=hchk;refine⟨fun t ht=> ?_,fun id hid=> ?_,?_⟩
 ·have hk:=dq.1 (hF t ht);have hns:fG t (slotsOf J.items)=false:=by simpa using(hkeep t hk).2
  rcases tO (K:=K) (S.base J.da) J.items v t with⟨⟨i,d⟩,hmem,h1,h2⟩|⟨_,h2⟩
  ·exact absurd (xb (iE hmem) h1) (lM hns)
  ·rw[show(unpack K S J v).env t=_ from h2,Ab,Qr hk]
 ·have hlt:id<S.N:=by
   cases W with
   |none=>cases hW
   |some q=>
    obtain⟨n,l⟩:=q;simp only at hW;simp only[okW,Bool.or_eq_false_iff]at hid;have h1:=QG hW;have h2:¬n<=id:=fun hle=>by rw[Nat.ble_eq_true_of_le hle]at hid;cases hid.1
    omega
  rcases yp (K:=K) (S.base J.da) J.items v id hnd with⟨⟨i,d⟩,hmem,h1,h2⟩|⟨_,h2⟩
  ·have:=(hids id (oW (iE hmem) h1)).2;rw[hid]at this;cases this
  ·rw[show(unpack K S J v).H id=_ from h2,GO,Qr hlt]
 ·rw[unpack,yo,GN];exact QI _
theorem BH{S S1:aH U}{J:JS U}{F:List Nat}{W:WS}(hchk:oH S J F W=true){v:nc J.items}(hp:pack K S1 J.items=some v)(hf:gg J.da (some (S.N,dO J.items)) S S1):
  ∀(E:En) (a:Act) (w:World) (L:Nat->Value),Rel E S1.st a w L->∃L',Rel E (unpack K S J v).st a w L':=by
 intro E a w L h;refine⟨L,Rel.meet hchk hp hf.env (fun id hid hni=>hf.H id ?_) hf.N h⟩
 simp only[okW,Bool.or_eq_false_iff];refine⟨?_,?_⟩
 ·cases hb:Nat.ble S.N id with
  |false=>rfl
  |true=>have:=QG hb;omega
 ·cases hb:fG id (dO J.items)with
  |false=>rfl
  |true=>exact absurd (dq.1 hb) hni
theorem yY(S:aH U)(D:List Nat):(S.eA D).st=S.st.o4 D:=by
 unfold aH.eA aH.st St.o4;congr 1
 funext t
 simp only
 by_cases h:t∈D
 ·rw[Qr h,dq.2 h];rfl
 ·rw[Qs h]
  cases hb:fG t D with
  |true=>exact absurd (dq.1 hb) h
  |false=>rfl
theorem zT{F D:List Nat}(h:BC F D=true)(W:WS)(S:aH U):gg F W S (S.eA D):=
 ⟨fun t ht=>by
  have hn:fG t D=false:=by
   cases hb:fG t D with
   |false=>rfl
   |true=>
    have:=QH.1 h t (dq.1 hb);rw[dq.2 ht]at this;cases this
  simp only[aH.eA,hn],fun _ _=>rfl,QI _⟩
theorem KA{S:aH U}{J:JS U}{F:List Nat}{W:WS}(hchk:oH S J F W=true)(v:nc J.items){S':aH U}(hf:gg J.da (some (S.N,dO J.items)) (unpack K S J v) S'):gg F W S S':=by
 have hm:=Ex (K:=K) hchk v;refine hm.trans ?_;simp only[oH,Qm,QH]at hchk;obtain⟨⟨⟨⟨⟨⟨hnd,hids⟩,hokv⟩,hkeep⟩,hobj⟩,hF⟩,hW⟩:=hchk;refine⟨fun t ht=>hf.env t (dq.1 (hF t ht)),fun id hid=>hf.H id ?_,hf.N⟩
 simp only[okW,Bool.or_eq_false_iff];refine⟨?_,?_⟩
 ·cases W with
  |none=>cases hW
  |some q=>
   obtain⟨n,l⟩:=q;simp only at hW;simp only[okW,Bool.or_eq_false_iff]at hid;have h1:=QG hW
   cases hb:Nat.ble S.N id with
   |false=>rfl
   |true=>have:=QG hb;rw[Nat.ble_eq_true_of_le (QK h1 this)]at hid;cases hid.1
 ·cases hb:fG id (dO J.items)with
  |false=>rfl
  |true=>have:=(hids id (dq.1 hb)).2;rw[hid]at this;cases this
theorem IC{S:aH U}{J:JS U}{F:List Nat}{W:WS}(hchk:oH S J F W=true)(v:nc J.items){t:Nat}(ht:t∈J.da):(unpack K S J v).env t=S.env t:=by
 simp only[oH,Qm,QH]at hchk;obtain⟨⟨⟨⟨⟨⟨hnd,hids⟩,hokv⟩,hkeep⟩,hobj⟩,hF⟩,hW⟩:=hchk;have hns:fG t (slotsOf J.items)=false:=by simpa using(hkeep t ht).2
 rcases tO (K:=K) (S.base J.da) J.items v t with⟨⟨i,d⟩,hmem,h1,h2⟩|⟨_,h2⟩
 ·exact absurd (xb (iE hmem) h1) (lM hns)
 ·rw[show(unpack K S J v).env t=_ from h2,Ab,Qr ht]
theorem Pw{S:aH U}{J:JS U}{F:List Nat}{W:WS}(hchk:oH S J F W=true)(v:nc J.items){S':aH U}(hf:gg J.da (some (S.N,dO J.items)) (unpack K S J v) S'){v':nc J.items}(hv':pack K S' J.items=some v'):
  ∀(E:En) (a:Act) (w:World) (L:Nat->Value),Rel E S'.st a w L->∃L',Rel E (unpack K S J v').st a w L':=by
 intro E a w L hrel;have hkp:=fun{t} ht=>IC (K:=K) hchk v (t:=t) ht
 have hc:=hchk;simp only[oH,Qm,QH]at hc;obtain⟨⟨⟨⟨⟨⟨hnd,hids⟩,hokv⟩,hkeep⟩,hobj⟩,hF⟩,hW⟩:=hc;refine⟨L,Rel.meet hchk hv' (fun t ht=>(hf.env t ht).trans (hkp ht)) (fun id hid hni=>(hf.H id ?_).trans ?_) (by have:=hf.N;rw[unpack,yo,GN]at this;exact this) hrel⟩
 ·simp only[okW,Bool.or_eq_false_iff];refine⟨?_,?_⟩
  ·cases hb:Nat.ble S.N id with
   |false=>rfl
   |true=>have:=QG hb;omega
  ·cases hb:fG id (dO J.items)with
   |false=>rfl
   |true=>exact absurd (dq.1 hb) hni
 ·rcases yp (K:=K) (S.base J.da) J.items v id hnd with⟨⟨i,d⟩,hmem,h1,h2⟩|⟨_,h2⟩
  ·exact absurd (oW (iE hmem) h1) hni
  ·rw[show(unpack K S J v).H id=_ from h2,GO,Qr hid]
theorem Ss{T:U.Ty}{k:Nat}{nE:Option Nat}(hsz:U.size T=k)(hnE:NP U T nE=true)(xs:List (U.den T)):Cp k nE (xs.map (U.pv T))/\∀a:U.den T,ua nE (U.pv T a)=(qv K T a).pv:=by
 have key:∀a:U.den T,nS nE (U.pv T a)=some (cv T a):=by
  intro a;unfold cv
  cases nE with
  |none=>
   simp only[NP,Bool.not_eq_true']at hnE;have h1:=K.len T a;rw[K.one T hnE]at h1;rw[hnE]
   match h2:U.pv T a with
   |[]=>rw[h2]at h1;cases h1
   |x::l=>rfl
  |some n=>
   simp only[NP,Qm]at hnE;have h1:=QF hnE.2;subst h1;rw[hnE.1,nS,Qr (by rw[K.len];exact QI _),<-K.len T a,List.take_length]
 have hev:∀a:U.den T,ua nE (U.pv T a)=cv T a:=fun a=>by simp only[ua,key,Q3]
 refine⟨⟨fun e he=> ?_,fun e he=> ?_,fun e he=> ?_⟩,fun a=>by rw[hev,q7]⟩
 ·obtain⟨a,_,rfl⟩:=QP.1 he;rw[K.len,hsz]
 ·obtain⟨a,_,rfl⟩:=QP.1 he;rw[hev,key]
 ·obtain⟨a,_,rfl⟩:=QP.1 he;rw[hev];unfold cv;split
  ·exact QH.2 fun y hy=>eM (K.eU T a y hy)
  ·cases h2:U.pv T a with
   |nil=>have:=K.len T a;rename_i hag;rw[K.one T hag,h2]at this;cases this
   |cons x l=>
    have h3:=eM (K.eU T a x (by rw[h2];exact Qx))
    have h4:=K.eU T a x (by rw[h2];exact Qx)
    cases x<;>first|exact h3|(cases h4)
theorem du{Γ:List (cD U)}(hΓ:oM P Γ):∀(sa:SA U) {ρ:Type} (F:List Nat) (W:WS) (k:Exit->aH U->Option ρ) (S:aH U) (r:ρ),sa.cI=true->kK K Γ sa F W k S=some r->
  VS P nt sa.erase (fun e A=>∃S',A=S'.st/\gg F W S S'/\k e S'=some r) S.st
 | .skip,ρ,F,W,k,S,r,hok,h=>Na ⟨S,rfl,gg.refl _ _ _,h⟩
 | .exit id,ρ,F,W,k,S,r,hok,h=>Nb ⟨S,rfl,gg.refl _ _ _,h⟩
 | .ret,ρ,F,W,k,S,r,hok,h=>Rl ⟨S,rfl,gg.refl _ _ _,h⟩
 | .pf rs,ρ,F,W,k,S,r,hok,h=>by
  simp only[kK]at h;split at h
  ·rename_i ho;exact UY hΓ hok h fun S' hf hk=>⟨S',rfl,(hf.toC ho).more,hk⟩
  ·cases h
 | .nT un rs,ρ,F,W,k,S,r,hok,h=>by
  simp only[kK]at h;split at h
  ·rename_i ho;obtain⟨Γs,S',fs,h1,h2,h3,h4⟩:=pZ hΓ rs 0 _ _ hok h;split at h4
   ·rename_i hun;refine Rm h1 (S':=S'.st) ?_ ⟨S',rfl,(h3.toC ho).more,h4⟩;rw[RS.ta];have e:({S.st with N:=S.st.N+rs.len}:St)=(S.more rs.len).st:=rfl
    rw[e,Hq];rw[show S.st.N=S.N from rfl,h2]
    exact Qr hun
   ·cases h4
  ·cases h
 | .seq x y,ρ,F,W,k,S,r,hok,h=>by
  simp only[SA.cI,Qm]at hok;refine Lx ((du hΓ x F W _ S r hok.1 h).mono ?_);rintro e A ⟨S',rfl,hf,hk⟩
  cases e with
  |normal=>exact(du hΓ y F W k S' r hok.2 hk).mono fun e A ⟨S'',h1,h2,h3⟩=>⟨S'',h1,hf.trans h2,h3⟩
  |exit i=>exact⟨S',rfl,hf,hk⟩
  |goto l=>exact⟨S',rfl,hf,hk⟩
  |ret=>exact⟨S',rfl,hf,hk⟩
  |panic c=>exact⟨S',rfl,hf,hk⟩
  |outgrown=>exact⟨S',rfl,hf,hk⟩
 | .join J x y,ρ,F,W,k,S,r,hok,h=>by
  simp only[SA.cI,Qm]at hok;simp only[kK]at h;split at h
  ·rename_i hchk;unfold bL at h
   have hsub:∀S',gg J.da (some (S.N,dO J.items)) S S'->gg F W S S':=by
    intro S' hf;simp only[oH,Qm,QH]at hchk;obtain⟨⟨⟨⟨⟨⟨hnd,hids⟩,hokv⟩,hkeep⟩,hobj⟩,hF⟩,hW⟩:=hchk;refine⟨fun t ht=>hf.env t (dq.1 (hF t ht)),fun id hid=>hf.H id ?_,hf.N⟩
    simp only[okW,Bool.or_eq_false_iff];refine⟨?_,?_⟩
    ·cases W with
     |none=>cases hW
     |some q=>
      obtain⟨n,l⟩:=q;simp only at hW;simp only[okW,Bool.or_eq_false_iff]at hid;have h1:=QG hW
      cases hb:Nat.ble S.N id with
      |false=>rfl
      |true=>have:=QG hb;rw[Nat.ble_eq_true_of_le (QK h1 this)]at hid;cases hid.1
    ·cases hb:fG id (dO J.items)with
     |false=>rfl
     |true=>have:=(hids id (dq.1 hb)).2;rw[hid]at this;cases this
   refine Lx ((du hΓ x J.da _ _ S r hok.1 h).mono ?_);rintro e A ⟨S',rfl,hf,hk⟩
   cases e with
   |normal=>
    simp only at hk;split at hk
    ·rename_i v hv;refine M9 (BH hchk hv hf) ?_;exact(du hΓ y F W k _ r hok.2 hk).mono fun e A ⟨S'',h1,h2,h3⟩=>⟨S'',h1,(Ex hchk v).trans h2,h3⟩
    ·cases hk
   |exit i=>exact⟨S',rfl,hsub S' hf,hk⟩
   |goto l=>exact⟨S',rfl,hsub S' hf,hk⟩
   |ret=>exact⟨S',rfl,hsub S' hf,hk⟩
   |panic c=>exact⟨S',rfl,hsub S' hf,hk⟩
   |outgrown=>exact⟨S',rfl,hsub S' hf,hk⟩
  ·cases h
 | .cond c x y,ρ,F,W,k,S,r,hok,h=>by
  simp only[SA.cI,Qm]at hok;simp only[kK]at h;split at h
  ·rename_i b hb;have hv:c.val S.st= .bool b:=by rw[rn hok.1.1,hb];rfl
   refine Nc hv ?_
   cases b with
   |true=>exact du hΓ x F W k S r hok.1.2 h
   |false=>exact du hΓ y F W k S r hok.2 h
  ·rename_i hb;have hv:c.val S.st= .eL:=by rw[rn hok.1.1,hb];rfl
   obtain⟨h1,h2⟩:=Q7 h;exact LA hv (du hΓ x F W k S r hok.1.2 h1) (du hΓ y F W k S r hok.2 h2)
  ·cases h
 | .block id x,ρ,F,W,k,S,r,hok,h=>by
  refine LB ((du hΓ x F W _ S r hok h).mono ?_);rintro e A ⟨S',rfl,hf,hk⟩
  cases e with
  |exit i=>
   simp only at hk;simp only[yK];split at hk
   ·rename_i hi;rw[Qr (QF hi)];exact⟨S',rfl,hf,hk⟩
   ·rename_i hi;rw[Qs (Nat.ne_of_beq_eq_false hi)];exact⟨S',rfl,hf,hk⟩
  |normal=>exact⟨S',rfl,hf,hk⟩
  |goto l=>exact⟨S',rfl,hf,hk⟩
  |ret=>exact⟨S',rfl,hf,hk⟩
  |panic c=>exact⟨S',rfl,hf,hk⟩
  |outgrown=>exact⟨S',rfl,hf,hk⟩
 | .loop J x,ρ,F,W,k,S,r,hok,h=>by
  simp only[kK]at h;split at h
  ·rename_i hchk;split at h
   ·rename_i v0 hv0
    have hsub:∀v S',gg J.da (some (S.N,dO J.items)) (unpack K S J v) S'->gg F W S S':=by
     intro v S' hf;have hm:=Ex (K:=K) hchk v;refine hm.trans ?_;simp only[oH,Qm,QH]at hchk;obtain⟨⟨⟨⟨⟨⟨hnd,hids⟩,hokv⟩,hkeep⟩,hobj⟩,hF⟩,hW⟩:=hchk;refine⟨fun t ht=>hf.env t (dq.1 (hF t ht)),fun id hid=>hf.H id ?_,hf.N⟩
     simp only[okW,Bool.or_eq_false_iff];refine⟨?_,?_⟩
     ·cases W with
      |none=>cases hW
      |some q=>
       obtain⟨n,l⟩:=q;simp only at hW;simp only[okW,Bool.or_eq_false_iff]at hid;have h1:=QG hW
       cases hb:Nat.ble S.N id with
       |false=>rfl
       |true=>have:=QG hb;rw[Nat.ble_eq_true_of_le (QK h1 this)]at hid;cases hid.1
     ·cases hb:fG id (dO J.items)with
      |false=>rfl
      |true=>have:=(hids id (dq.1 hb)).2;rw[hid]at this;cases this
    have hself:∀v S',gg J.da (some (S.N,dO J.items)) (unpack K S J v) S'->∀v',pack K S' J.items=some v'->∀(E:En) (a:Act) (w:World) (L:Nat->Value),Rel E S'.st a w L->∃L',Rel E (unpack K S J v').st a w L':=by
     intro v S' hf v' hv' E a w L hrel;have hc:=hchk;simp only[oH,Qm,QH]at hc;obtain⟨⟨⟨⟨⟨⟨hnd,hids⟩,hokv⟩,hkeep⟩,hobj⟩,hF⟩,hW⟩:=hc;refine⟨L,Rel.meet hchk hv' (fun t ht=>(hf.env t ht).trans ?_) (fun id hid hni=>(hf.H id ?_).trans ?_) (by have:=hf.N;rw[unpack,yo,GN]at this;exact this) hrel⟩
     ·have hns:fG t (slotsOf J.items)=false:=by simpa using(hkeep t ht).2
      rcases tO (K:=K) (S.base J.da) J.items v t with⟨⟨i,d⟩,hmem,h1,h2⟩|⟨_,h2⟩
      ·exact absurd (xb (iE hmem) h1) (lM hns)
      ·rw[show(unpack K S J v).env t=_ from h2,Ab,Qr ht]
     ·simp only[okW,Bool.or_eq_false_iff];refine⟨?_,?_⟩
      ·cases hb:Nat.ble S.N id with
       |false=>rfl
       |true=>have:=QG hb;omega
      ·cases hb:fG id (dO J.items)with
       |false=>rfl
       |true=>exact absurd (dq.1 hb) hni
     ·rcases yp (K:=K) (S.base J.da) J.items v id hnd with⟨⟨i,d⟩,hmem,h1,h2⟩|⟨_,h2⟩
      ·exact absurd (oW (iE hmem) h1) hni
      ·rw[show(unpack K S J v).H id=_ from h2,GO,Qr hid]
    obtain⟨n,hn⟩:=u5 h
    refine Ly (fun m A=>∃v,A=(unpack K S J v).st/\mf (fun v=>kK K Γ x J.da (some (S.N,dO J.items)) (fun e S'=>match e with
     | .normal=>(match pack K S' J.items with|some v=>some (Sum.inl v)|none=>none)
     |e=>(k e S').map Sum.inr) (unpack K S J v)) m v=some r) n (BH hchk hv0 (gg.refl _ _ _)) ⟨v0,rfl,hn⟩ ?_
    rintro m A ⟨v,rfl,hm⟩
    cases m with
    |zero=>cases hm
    |succ m=>
     simp only[mf]at hm;split at hm
     ·cases hm
     ·rename_i r' hs;injection hm with hm
      subst hm;refine(du hΓ x J.da _ _ _ _ hok hs).mono ?_;rintro e A ⟨S',rfl,hf,hk⟩
      cases e with
      |normal=>
       simp only at hk;split at hk<;>cases hk
      |exit i=>simp only[Qb]at hk;obtain⟨q,hq,e⟩:=hk;injection e with e;subst e;exact⟨S',rfl,hsub v S' hf,hq⟩
      |goto l=>simp only[Qb]at hk;obtain⟨q,hq,e⟩:=hk;injection e with e;subst e;exact⟨S',rfl,hsub v S' hf,hq⟩
      |ret=>simp only[Qb]at hk;obtain⟨q,hq,e⟩:=hk;injection e with e;subst e;exact⟨S',rfl,hsub v S' hf,hq⟩
      |panic c=>simp only[Qb]at hk;obtain⟨q,hq,e⟩:=hk;injection e with e;subst e;exact⟨S',rfl,hsub v S' hf,hq⟩
      |outgrown=>simp only[Qb]at hk;obtain⟨q,hq,e⟩:=hk;injection e with e;subst e;exact⟨S',rfl,hsub v S' hf,hq⟩
     ·rename_i v' hs;refine(du hΓ x J.da _ _ _ _ hok hs).mono ?_;rintro e A ⟨S',rfl,hf,hk⟩
      cases e with
      |normal=>
       simp only at hk;split at hk
       ·rename_i v1 hv1;injection hk with hk
        injection hk with hk
        subst hk;exact⟨m,Nat.lt_succ_self m,_,hself v S' hf v1 hv1,v1,rfl,hm⟩
       ·cases hk
      |exit i=>simp only[Qb]at hk;obtain⟨q,hq,e⟩:=hk;cases e
      |goto l=>simp only[Qb]at hk;obtain⟨q,hq,e⟩:=hk;cases e
      |ret=>simp only[Qb]at hk;obtain⟨q,hq,e⟩:=hk;cases e
      |panic c=>simp only[Qb]at hk;obtain⟨q,hq,e⟩:=hk;cases e
      |outgrown=>simp only[Qb]at hk;obtain⟨q,hq,e⟩:=hk;cases e
   ·cases h
  ·cases h
 | .OV n x,ρ,F,W,k,S,r,hok,h=>by
  simp only[kK]at h;have⟨g,hg,h⟩:=(⟨_,rfl,h⟩:∃g,g=_/\JP g n S=some r);refine Ly (fun m A=>∃S1:aH U,A=S1.st/\gg F W S S1/\JP g m S1=some r) n (fun E a w L h=>⟨L,h⟩) ⟨S,rfl,gg.refl _ _ _,h⟩ ?_
  rintro m A ⟨S1,rfl,hf1,hm⟩
  cases m with
  |zero=>cases hm
  |succ m=>
   simp only[JP]at hm;rw[hg]at hm;simp only at hm;rw[<-hg]at hm;refine(du hΓ x F W _ S1 r hok hm).mono ?_;rintro e A ⟨S',rfl,hf,hk⟩
   cases e with
   |normal=>exact⟨m,Nat.lt_succ_self m,S'.st,fun E a w L h=>⟨L,h⟩,S',rfl,hf1.trans hf,hk⟩
   |exit i=>exact⟨S',rfl,hf1.trans hf,hk⟩
   |goto l=>exact⟨S',rfl,hf1.trans hf,hk⟩
   |ret=>exact⟨S',rfl,hf1.trans hf,hk⟩
   |panic c=>exact⟨S',rfl,hf1.trans hf,hk⟩
   |outgrown=>exact⟨S',rfl,hf1.trans hf,hk⟩
 | .back J f kk nE T tg p0 p1 x y,ρ,F,W,k,S,r,hok,h=>by
  simp only[SA.cI,Qm]at hok;simp only[kK]at h;obtain⟨D,hD⟩:∃D,SC.n5 (.yk (.tmp tg) [p0,p1] x.erase y.erase)=D:=⟨_,rfl⟩;rw[hD]at h;split at h
  ·rename_i hcond;simp only[Qm]at hcond;obtain⟨⟨⟨⟨⟨⟨hbk,hsz⟩,hnE⟩,htk⟩,hkD⟩,hFD⟩,hchk⟩:=hcond;have hsz:=QF hsz;have htk:=dq.1 htk
   have htD:tg∉D:=fun hm=>by
    have:=QH.1 hkD tg hm;rw[dq.2 htk]at this;cases this
   have hp:∀q,q=p0\/q=p1->fG q J.da=false:=by
    intro q hq;have hqD:q∈D:=by rw[<-hD];rcases hq with rfl|rfl<;>simp[SC.n5]
    simpa using QH.1 hkD q hqD
   split at h
   ·rename_i f' T' xs' hclo;split at h
    ·rename_i hff;have hff:=QF hff;subst hff;split at h
     ·rename_i xs hcast;obtain⟨eT,hxs⟩:=kf hcast;subst eT;simp only at hxs;subst hxs;split at h
      ·rename_i v0 hv0;obtain⟨hin,hev⟩:=Ss (K:=K) hsz hnE xs;have⟨step,hstep,h⟩:=(⟨_,rfl,h⟩:∃step,step=_/\jC step (fun v=>k .normal (unpack K (S.eA D) J v)) xs.reverse v0=some r)
       have hN:(S.eA D).N=S.N:=rfl;refine U0 (EP hΓ hbk) hin (by rw[hD];exact htD) (fun i A=>∃v,A=(unpack K (S.eA D) J v).st/\jC step (fun v=>k .normal (unpack K (S.eA D) J v)) (xs.take i).reverse v=some r) ?_ ?_ ?_ ?_
       ·rw[hD,<-yY];refine⟨_,BH hchk hv0 (gg.refl _ _ _),v0,rfl,?_⟩;rw[QC,List.take_length];exact h
       ·rintro i A ⟨v,rfl,_⟩;show((unpack K (S.eA D) J v).env tg).pv=_;rw[IC hchk v htk];have:(S.eA D).env tg=S.env tg:=(zT hkD none S).env tg htk;rw[this,hclo];rfl
       ·rintro m A e ⟨v,rfl,hm⟩ he;rw[QT,Qb]at he;obtain⟨a,ha,rfl⟩:=he;have hml:m<xs.length:=(Qw.1 ha).1;rw[List.take_add_one,ha,Option.toList_some,List.reverse_append]at hm;simp only[List.reverse_cons,List.reverse_nil,List.nil_append,List.singleton_append,jC]at hm;rw[List.length_reverse,List.length_take,Nat.min_eq_left (Nat.le_of_lt hml)]at hm
        obtain⟨z,hz,hzr⟩:∃z,step m a v=some z/\(match z with| .inr r'=>r'=r| .inl s'=>jC step (fun v=>k .normal (unpack K (S.eA D) J v)) (xs.take m).reverse s'=some r):=by
         split at hm
         ·cases hm
         ·rename_i r' hs;injection hm with hm
          exact⟨_,hs,hm⟩
         ·rename_i s' hs;exact⟨_,hs,hm⟩
        clear hm;rw[hstep]at hz;simp only at hz
        have hst:({(unpack K (S.eA D) J v).st with env:=bd (bd (unpack K (S.eA D) J v).st.env p0 (.int .i64 m)) p1 (ua nE (U.pv _ a))}:St)=aH.st {(unpack K (S.eA D) J v)with env:=fm (fm (unpack K (S.eA D) J v).env p0 (.int .i64 m)) p1 (qv K _ a)}:=by
         have henv:bd (bd (unpack K (S.eA D) J v).st.env p0 (.int .i64 m)) p1 (ua nE (U.pv _ a))=fun t=>((fm (fm (unpack K (S.eA D) J v).env p0 (.int .i64 m)) p1 (qv K _ a)) t).pv:=by
          funext t
          simp only[bM,hev];unfold bd;split
          ·rfl
          ·split
           ·rfl
           ·rfl
         exact congrArg (fun e=>({(unpack K (S.eA D) J v).st with env:=e}:St)) henv
        rw[hst]
        have hf0:gg J.da (some (S.N,dO J.items)) (unpack K (S.eA D) J v) {(unpack K (S.eA D) J v)with env:=fm (fm (unpack K (S.eA D) J v).env p0 (.int .i64 m)) p1 (qv K _ a)}:=by
         refine⟨fun t ht=> ?_,fun _ _=>rfl,QI _⟩
         simp only[bM];rw[bF _ _ (fun e=>by have:=hp t (.inr e);rw[dq.2 ht]at this;cases this),bF _ _ (fun e=>by have:=hp t (.inl e);rw[dq.2 ht]at this;cases this)]
        refine(du hΓ x J.da _ _ _ _ hok.1 hz).mono ?_;rintro e A ⟨S1,rfl,hf1,hk1⟩
        cases e with
        |normal=>
         simp only at hk1;refine(du hΓ y J.da _ _ _ _ hok.2 hk1).mono ?_;rintro e A ⟨S2,rfl,hf2,hk2⟩;have hf3:gg J.da (some (S.N,dO J.items)) (unpack K (S.eA D) J v) (S2.eA D):=((hf0.trans hf1).trans hf2).trans (zT hkD _ _);have hf4:gg F W S (S2.eA D):=(zT hFD W S).trans (KA hchk v hf3);rw[hD]
         cases e with
         |normal=>
          simp only at hk2;split at hk2
          ·rename_i v' hv';injection hk2 with hk2
           subst hk2;refine⟨_,?_,v',rfl,hzr⟩;rw[<-yY];exact Pw hchk v hf3 hv'
          ·cases hk2
         |ret=>
          simp only[Qb]at hk2;obtain⟨q,hq,rfl⟩:=hk2;simp only at hzr;subst hzr;exact⟨S2.eA D,(yY _ _).symm,hf4,hq⟩
         |exit i=>
          simp only[Qb]at hk2;obtain⟨q,hq,rfl⟩:=hk2;simp only at hzr;subst hzr;exact⟨S2.eA D,(yY _ _).symm,hf4,hq⟩
         |goto i=>cases hk2
         |panic ch=>cases hk2
         |outgrown=>cases hk2
        |ret=>cases hk1
        |exit i=>cases hk1
        |goto i=>cases hk1
        |panic ch=>cases hk1
        |outgrown=>cases hk1
       ·rintro A ⟨v,rfl,hm⟩;simp only[List.take_zero,List.reverse_nil,jC]at hm;exact⟨_,rfl,(zT hFD W S).trans (KA hchk v (gg.refl _ _ _)),hm⟩
      ·cases h
     ·cases h
    ·cases h
   ·cases h
  ·cases h
 | .ps p x,ρ,F,W,k,S,r,hok,h=>by
  simp only[kK]at h;split at h
  ·rename_i hW;simp only[Qm]at hW;split at h
   ·rename_i S1 hp;refine M9 (fun E a w L hr=>Ps.sound K hp hr) ((du hΓ x F W k S1 r hok h).mono fun e A ⟨S'',h1,h2,h3⟩=>⟨S'',h1,gg.trans ?_ h2,h3⟩)
    exact(Ps.VD hp hW.1).toC hW.2
   ·cases h
  ·cases h
 | .DB p x,ρ,F,W,k,S,r,hok,h=>by
  refine UZ (du hΓ x F W _ S r hok h) ?_;rintro e A ⟨S',rfl,hf,hk⟩
  cases e with
  |normal=>
   simp only at hk;split at hk
   ·rename_i hW;simp only[Qm]at hW;split at hk
    ·rename_i S1 hp;exact⟨S1.st,⟨S1,rfl,hf.trans ((Ps.VD hp hW.1).toC hW.2),hk⟩,fun E a w L hr=>Ps.sound K hp hr⟩
    ·cases hk
   ·cases hk
  |exit i=>exact⟨_,⟨S',rfl,hf,hk⟩,fun E a w L hr=>⟨L,hr⟩⟩
  |goto l=>exact⟨_,⟨S',rfl,hf,hk⟩,fun E a w L hr=>⟨L,hr⟩⟩
  |ret=>exact⟨_,⟨S',rfl,hf,hk⟩,fun E a w L hr=>⟨L,hr⟩⟩
  |panic c=>exact⟨_,⟨S',rfl,hf,hk⟩,fun E a w L hr=>⟨L,hr⟩⟩
  |outgrown=>exact⟨_,⟨S',rfl,hf,hk⟩,fun E a w L hr=>⟨L,hr⟩⟩
end
end Go.TQ
end
noncomputable section
namespace Go.TQ
open Go.RowKit
section
variable {P : Program} {E : En} {S : St} {a : Act} {w : World} {L : Nat -> Value} {nt : Nat}
theorem VS.post{sc:SC}{Q Q':Exit->St->Prop}{S:St}(h:VS P nt sc Q S)(hq:∀e A,Q e A->∃A',(∀(E:En) (a:Act) (w:World) (L:Nat->Value),Rel E A a w L->∃L',Rel E A' a w L')/\Q' e A'):VS P nt sc Q' S:=
 fun c hs hc E hE hk a w L hr=>wpIn_mono (h c hs hc E hE hk a w L hr) fun e a' w' ⟨S',L',h1,h2⟩=>by
  obtain⟨A',h3,h4⟩:=hq e S' h2;obtain⟨L'',h5⟩:=h3 E a' w' L' h1;exact⟨A',L'',h5,h4⟩
theorem Rel.Wl(h:Rel E S a w L){id:Nat}{cs:List PV}(hid:id<S.N)(hc:(S.H id).c= .box cs):Rel E {S with H:=bd S.H id ⟨(S.H id).an,.box (cs.map nz)⟩} a w L:=by
 have:=(h.n4 (w':=w) hid ⟨(S.H id).an,.box (cs.map nz)⟩ (L id) (.inl ⟨rfl,rfl,by rw[hc];rfl⟩) rfl rfl rfl (QI _) (fun _ _ _=>rfl) (fun b _ hb=> .inl ⟨by rw[hc];rfl,hb⟩) (fun hs hg=>by
  obtain⟨b,cur,T,h1,h2,h3,h4⟩:=h.nv hid hc
  exact⟨b,cur,T,h1,h2,h4,(h3.mono hs hg).nz⟩)).1
 rwa [yV]at this
end
section
variable {U : TU}
def Nv(S:aH U):RV->Option (KV U)
 | .tmp t=>some (S.env t)
 | .cell t n=>(match S.env t with
  | .ptr id an off=>(match S.nL id an with|some cs=>BM n (cs.drop off)|none=>none)
  |_=>none)
def Jv(S:aH U):List RV->Option (List (KV U))
 |[]=>some []
 |r::rs=>(match Nv S r with
  |some x=>(match Jv S rs with|some xs=>some (x::xs)|none=>none)
  |none=>none)
def U5:List (KV U)->KV U
 |[x]=>x
 |xs=> .c6 xs
def pA(S:aH U)(rs:List RV):Option (KV U):=
 match Jv S rs with
 |some xs=>some (U5 xs)
 |none=>none
theorem RD{S:aH U}{r:RV}{x:KV U}(h:Nv S r=some x):vJ S.st r=some x.pv:=by
 cases r with
 |tmp t=>injection h with h;subst h;rfl
 |cell t n=>
  simp only[Nv]at h;split at h
  ·rename_i id an off ht;split at h
   ·rename_i cs hb;obtain⟨h1,h2⟩:=qf hb;have h3:S.st.env t= .ptr id an off:=by simp only[aH.st,ht,KV.pv]
    simp only[vJ,h3];rw[Qr h1,h2];have:=vn h;rw[List.map_drop]at this;exact this
   ·cases h
  ·cases h
theorem Ka{S:aH U}:∀{rs:List RV} {xs:List (KV U)},Jv S rs=some xs->qA S.st rs=some (xs.map KV.pv)
 |[],xs,h=>by injection h with h;subst h;rfl
 |r::rs,xs,h=>by
  simp only[Jv]at h;split at h
  ·rename_i x hx;split at h
   ·rename_i ys hys;injection h with h
    subst h;simp only[qA,RD hx,Ka hys,QD]
   ·cases h
  ·cases h
theorem yl{S:aH U}{rs:List RV}{x:KV U}(h:pA S rs=some x):nQ S.st rs=some x.pv:=by
 unfold pA at h;split at h
 ·rename_i xs hxs;injection h with h
  subst h;have:=Ka hxs;unfold nQ;rw[this]
  match xs with
  |[]=>rfl
  |[x]=>rfl
  |x::y::l=>simp only[QD,U5,KV.pv,KV.bJ]
 ·cases h
variable (K : TK U)
def wo(S:aH U)(ex:Option Nat):(r:me U)->KV U->Option r.den
 | .one T,x=>rM K S.lk T x
 | .many Ts,x=>(match x with| .c6 xs=>JH K S.lk Ts xs|_=>none)
 | .fn a,x=>(match Nat.ble a.depth 9 with|true=>EY K S ex a x|false=>none)
variable {K}
theorem HS{S:aH U}{ex:Option Nat}(hex:∀id,ex=some id->∀e k T xs,(S.H id).c≠ .row e k T xs){r:me U}{x:KV U}{v:r.den}(h:wo K S ex r x=some v):fz S.st.H ex 9 x.pv=oa r v:=by
 cases r with
 |one T=>exact D1 hex 7 h
 |many Ts=>
  simp only[wo]at h;split at h
  ·rename_i xs;rw[KV.pv,KV.bJ,fz,oa,K9 hex 6 Ts _ v h]
  ·cases h
 |fn a=>
  simp only[wo]at h;split at h
  ·rename_i hd;exact MX hex a 9 x v (QG hd) h
  ·cases h
variable (K)
def LJ(A_s:List (KV U)):aH U:=
 {env:=fun t=>(A_s[t]?).getD .undef,H:=fun _=>⟨0,.dead⟩,N:=0}
def SF(pos:Nat)(cs A_s:List (KV U)):aH U:=
 {env:=fun t=>((fM pos [KV.ptr 0 0 0] A_s)[t]?).getD .undef,H:=fun id=>(match Nat.beq id 0 with|true=>⟨0,.box cs⟩|false=>⟨0,.dead⟩),N:=1}
def Oc{ρ:Type}(ex:Option Nat)(rs:List RV)(r:me U)(k:aH U->r.den->Option ρ)(e:Exit)(S:aH U):Option ρ:=
 match e with
 | .ret| .normal=>(match pA S rs with
  |some x=>(match wo K S ex r x with|some v=>k S v|none=>none)
  |none=>none)
 |_=>none
def vl(S:aH U):List RV->Bool
 |[]=>true
 | .tmp _::l=>vl S l
 | .cell t _::l=>(match S.env t with| .ptr id _ _=> !Nat.beq id 0|_=>false)&&vl S l
 def MQ(Γ:List (cD U))(sa:SA U)(rs:List RV)(A_s:List (dv U))(r:me U)(a:cU A_s):Option r.den:=
 kK K Γ sa [] (some (0,[])) (Oc K none rs r fun _ v=>some v) (LJ (pw K A_s a))
 def Xo(Γ:List (cD U))(sa:SA U)(rs:List RV)(pos:Nat)(R:U.Ty)(A_s:List (dv U))(r:me U)(s:U.den R)(a:cU A_s):Option (r.den×U.den R):=
 kK K Γ sa [] (some (0,[])) (Oc K (some 0) rs r fun S v=>(match vl S rs with
  |true=>(match S.nL 0 0 with
   |some cs=>(match K.dec R kG cs with|some s'=>some (v,s')|none=>none)
   |none=>none)
  |false=>none)) (SF pos (K.bI R s) (pw K A_s a))
 def Xq(Γ:List (cD U))(sa:SA U)(rs:List RV)(A_s:List (dv U))(R:U.Ty)(a:cU A_s):Option (U.den R):=
 kK K Γ sa [] (some (0,[])) (fun e S=>(match e with
  | .ret=>(match pA S rs with
   |some (.ptr id an 0)=>(match S.nL id an with|some cs=>K.dec R kG cs|none=>none)
   |_=>none)
  |_=>none)) (LJ (pw K A_s a))
variable {K}
variable {P : Program} {nt : Nat}
theorem qQ:∀(A_s:List (dv U)) (a:cU A_s),(eW A_s a).length=A_s.length
 |[],_=>by rw[eW];rfl
 |_::l,a=>by rw[eW,QE,qQ l a.2,QE]
theorem H4(A_s:List (dv U))(a:cU A_s):(LJ (pw K A_s a)).st=cY 0 false [] (eW A_s a):=by
 unfold LJ aH.st cY;congr 1
 ·funext t
  rw[<-uj K];simp only[Qq,Qu,IF,QT];cases (pw K A_s a)[t]?<;>rfl
theorem U2(pos:Nat)(R:U.Ty)(s:U.den R)(A_s:List (dv U))(a:cU A_s):(SF pos (K.bI R s) (pw K A_s a)).st=cY pos true (U.pv R s) (eW A_s a):=by
 unfold SF aH.st cY;congr 1
 ·funext t
  rw[<-uj K];simp only[Qt];have:(fM pos [PV.ptr 0 0 0] ((pw K A_s a).map KV.pv))=(fM pos [KV.ptr 0 0 0] (pw K A_s a)).map KV.pv:=by simp[fM,KV.pv]
  rw[this,QT];cases (fM pos [KV.ptr 0 0 0] (pw K A_s a))[t]?<;>rfl
 ·funext id
  cases id with
  |zero=>simp only[and_self,Qt,cm.pv,cZ.pv,K.mB]
  |succ id=>simp[Nat.beq,cm.pv,cZ.pv]
theorem IP{ρ:Type}{ex:Option Nat}{rs:List RV}{r:me U}{k:aH U->r.den->Option ρ}{e:Exit}{S:aH U}{z:ρ}(h:Oc K ex rs r k e S=some z):(e= .ret\/e= .normal)/\∃x v,pA S rs=some x/\wo K S ex r x=some v/\k S v=some z:=by
 unfold Oc at h
 have go:∀{o:Option ρ},o=some z->o=(match pA S rs with
  |some x=>(match wo K S ex r x with|some v=>k S v|none=>none)
  |none=>none)->∃x v,pA S rs=some x/\wo K S ex r x=some v/\k S v=some z:=by
  intro o ho he;rw[ho]at he;replace he:=he.symm;split at he
  ·rename_i x hx;split at he
   ·rename_i v hv;exact⟨x,v,hx,hv,he⟩
   ·cases he
  ·cases he
 split at h
 ·exact⟨.inl rfl,go h rfl⟩
 ·exact⟨.inr rfl,go h rfl⟩
 ·cases h
theorem BY{f:FuncId}{Γ:List (cD U)}{sa:SA U}{rs:List RV}{A_s:List (dv U)}{r:me U}(hf:fH P f nt sa.erase rs)(hok:sa.cI=true)(hlen:A_s.length<=nt)(hΓ:oM P Γ){F:cU A_s->Option r.den}(hF:∀a,MQ K Γ sa rs A_s r a=F a):cD.Sound P (.fn f A_s r F):=by
 refine⟨hf.enters,fun a v hv=> ?_⟩
 rw[<-hF a]at hv;refine hf.IX (by simpa[qQ]using hlen) ?_
 rw[<-H4 (K:=K)];refine(du hΓ sa [] _ _ _ _ hok hv).mono ?_;rintro e A ⟨S',rfl,_,hk⟩;obtain⟨he,x,v',h1,h2,h3⟩:=IP hk;injection h3 with h3
 subst h3
 have hret:uX rs false (fun r' cs''=>r'=oa r v'/\(false=true->cs''=[])) S'.st:=by
  unfold uX;rw[yl h1];exact⟨HS (fun id hid=>by cases hid) h2,fun h=>by cases h⟩
 rcases he with rfl|rfl<;>exact hret
theorem Po{S:aH U}{id an:Nat}{cs:List (KV U)}(hb:S.nL id an=some cs){R:U.Ty}{s:U.den R}(hd:K.dec R kG cs=some s)(hN:id<S.N):(∀(E:En) (a:Act) (w:World) (L:Nat->Value),Rel E S.st a w L->∃L',Rel E {S.st with H:=bd S.st.H id ⟨an,.box (U.pv R s)⟩} a w L'):=by
 intro E a w L h;obtain⟨h1,h2⟩:=qf hb;have:=h.Wl hN h2;rw[h1,(oI (K.jr _ _ _ _ hd)).1]at this;exact⟨L,this⟩
theorem KR(K:TK U)(R:U.Ty)(s:U.den R):(U.pv R s).all PV.closed=true:=QH.2 fun y hy=>eM (K.eU R s y hy)
theorem O4{f:FuncId}{Γ:List (cD U)}{sa:SA U}{rs:List RV}{pos:Nat}{R:U.Ty}{A_s:List (dv U)}{r:me U}(hf:fH P f nt sa.erase rs)(hok:sa.cI=true)(hlen:1+A_s.length<=nt)(hΓ:oM P Γ)
  {F:U.den R->cU A_s->Option (r.den×U.den R)} (hF:∀s a,Xo K Γ sa rs pos R A_s r s a=F s a):cD.Sound P (.rc f pos R A_s r F):=by
 refine⟨hf.enters,fun s a v s' hv=> ?_⟩
 rw[<-hF s a]at hv;refine hf.IX (by simpa[qQ]using hlen) ?_
 rw[<-U2 (K:=K)];refine(du hΓ sa [] _ _ _ _ hok hv).post ?_;rintro e A ⟨S',rfl,hfr,hk⟩;obtain⟨he,x,v',h1,h2,h3⟩:=IP hk;split at h3
 case h_2=>cases h3
 rename_i hnc;split at h3
 ·rename_i cs hb;split at h3
  ·rename_i s'' hd;injection h3 with h3
   injection h3 with h4 h5
   subst h4 h5;have hN:0<S'.N:=QJ (show 0<1 from Nat.one_pos) hfr.N
   refine⟨_,Po hb hd hN,?_⟩;have h6:=yl h1
   have hres:∀rs:List RV,vl S' rs=true->qA {S'.st with H:=bd S'.st.H 0 ⟨0,.box (U.pv R s'')⟩} rs=qA S'.st rs:=by
    intro rs hrs
    induction rs with
    |nil=>rfl
    |cons q rs ih=>
     cases q with
     |tmp t=>simp only[vl]at hrs;simp only[qA,vJ,ih hrs]
     |cell t n=>
      simp only[vl,Qm]at hrs;have h9:=hrs.1;split at h9
      ·rename_i id an off ht;have hne:id≠0:=by intro e;subst e;simp at h9
       have h10:S'.st.env t= .ptr id an off:=by simp only[aH.st,ht,KV.pv]
       simp only[qA,vJ,h10,bF _ _ hne,ih hrs.2]
      ·cases h9
   have hret:uX rs true (fun r' cs''=>r'=oa r v'/\(true=true->cs''=U.pv R s'')) {S'.st with H:=bd S'.st.H 0 ⟨0,.box (U.pv R s'')⟩}:=by
    unfold uX
    have h7:nQ {S'.st with H:=bd S'.st.H 0 ⟨0,.box (U.pv R s'')⟩} rs=some x.pv:=by
     rw[<-h6];unfold nQ;have h8:=hres rs hnc;simp only[h8]
    rw[h7];simp only[bo];refine⟨KR K R s'',?_,by simp⟩
    have hbx:=(ui hb).2;rw[<-HS (K:=K) (S:=S') (ex:=some 0) (fun id hid=>by injection hid with hid;subst hid;intro e k T xs hq;rw[hbx]at hq;cases hq) h2]
    have hz:∀(n:Nat) (y:PV),fz (bd S'.st.H 0 ⟨0,.box (U.pv R s'')⟩) (some 0) n y=fz S'.st.H (some 0) n y:=by
     intro n
     induction n with
     |zero=>intro y;simp only[fz]
     |succ n ih=>
      intro y;have hu:∀id,¬(some id=some 0)->bd S'.st.H 0 ⟨0,.box (U.pv R s'')⟩ id=S'.st.H id:=fun id hid=>bF _ _ (fun e=>hid (by rw[e]))
      have hm:fz (bd S'.st.H 0 ⟨0,.box (U.pv R s'')⟩) (some 0) n=fz S'.st.H (some 0) n:=funext ih
      cases y with
      |own id an=>
       simp only[fz,hm]
       by_cases h0:some id=some 0
       ·rw[Qr (.inl h0),Qr (.inl h0)]
       ·rw[hu id h0]
      |ptr id an off=>
       simp only[fz,hm]
       by_cases h0:some id=some 0
       ·rw[Qr (.inl h0),Qr (.inl h0)]
       ·rw[hu id h0]
      |agg cs=>simp only[fz,hm]
      |c6 cs=>simp only[fz,hm]
      |bg f cs=>simp only[fz,hm]
      |_=>simp only[fz]
    exact hz 9 x.pv
   rcases he with rfl|rfl<;>exact hret
  ·cases h3
 ·cases h3
theorem Pp{f:FuncId}{Γ:List (cD U)}{sa:SA U}{t:Nat}{A_s:List (dv U)}{R:U.Ty}(hf:fH P f nt sa.erase [.tmp t])(hok:sa.cI=true)(hlen:A_s.length<=nt)(hΓ:oM P Γ){F:cU A_s->Option (U.den R)}(hF:∀a,Xq K Γ sa [.tmp t] A_s R a=F a):cD.Sound P (.nw f A_s R F):=by
 refine⟨hf.enters,fun a s hv=> ?_⟩
 rw[<-hF a]at hv;refine hf.XW (by simpa[qQ]using hlen) ?_
 rw[<-H4 (K:=K)];intro c hs hc E hE hkt a' w L hr;refine wpIn_mono (du hΓ sa [] _ _ _ _ hok hv c hs hc E hE hkt a' w L hr) ?_;rintro e a2 w2 ⟨A,L2,hrel,S',rfl,_,hk⟩;split at hk
 ·split at hk
  ·rename_i id an hx;split at hk
   ·rename_i cs hb
    have hre:S'.st.env t= .ptr id an 0:=by
     have:=yl hx;simpa[nQ,qA,vJ,KV.pv]using this
    have hN:id<S'.N:=by
     have:=hrel.env t;rw[hre]at this;exact(this.nB (show(S'.st.gh L2).V id=an from(qf hb).1)).1
    obtain⟨L3,h3⟩:=Po hb hk hN E a2 w2 L2 hrel;refine⟨_,L3,h3,?_⟩
    have h7:nQ {S'.st with H:=bd S'.st.H id ⟨an,.box (U.pv R s)⟩} [.tmp t]=some (.ptr id an 0):=by
     simp only[nQ,qA,vJ];rw[hre]
    simp only[Kx];rw[h7];simp only[bo,Qt];exact⟨KR K R s,trivial⟩
   ·cases hk
  ·cases hk
 ·cases hk
def OG(e k:Nat)(T:U.Ty)(xs:List (U.den T))(A_s:List (KV U)):aH U:=
 {env:=fun t=>(((KV.own 0 0)::A_s)[t]?).getD .undef,H:=fun id=>(match Nat.beq id 0 with|true=>⟨0,.row e k T xs⟩|false=>⟨0,.dead⟩),N:=1}
theorem Nd(e k:Nat)(T:U.Ty)(xs:List (U.den T))(A_s:List (dv U))(a:cU A_s):(OG e k T xs (pw K A_s a)).st=nb e k (xs.map (U.pv T)) (eW A_s a):=by
 unfold OG aH.st nb;congr 1
 ·funext t
  rw[<-uj K]
  cases t with
  |zero=>rfl
  |succ t=>
   simp only[List.getElem?_cons_succ,QT];cases (pw K A_s a)[t]?<;>rfl
 ·funext id
  cases id with
  |zero=>simp[cm.pv,cZ.pv]
  |succ id=>simp[Nat.beq,cm.pv,cZ.pv]
variable (K)
def rowAt(S:aH U)(id an e k:Nat)(T:U.Ty):Option (List (U.den T)):=
 match S.row? id an with
 |some r=>(match Nat.beq r.e e&&Nat.beq r.k k with|true=>tJ r.T T r.xs|false=>none)
 |none=>none
theorem FK{S:aH U}{id an e k:Nat}{T:U.Ty}{xs:List (U.den T)}(h:rowAt S id an e k T=some xs):(S.H id).an=an/\(S.H id).c= .row e k T xs:=by
 unfold rowAt at h;split at h
 ·rename_i r hr;obtain⟨h1,h2⟩:=w4 hr;split at h
  ·rename_i hek;rw[Qm]at hek;obtain⟨eT,rfl⟩:=kf h;obtain⟨re,rk,rT,rxs⟩:=r;simp only at eT h2 hek;subst eT;exact⟨h1,by rw[h2,QF hek.1,QF hek.2]⟩
  ·cases h
 ·cases h
def R8{ρ:Type}(rs:List RV)(r:me U)(e k:Nat)(T:U.Ty)(j:r.den->List (U.den T)->Option ρ)(en:Exit)(S:aH U):Option ρ:=
 match en with
 | .ret| .normal=>(match pA S rs with
  |some x=>(match wo K (S.xH 0 0) (some 0) r x with
   |some v=>(match rowAt S 0 0 e k T with|some ys=>j v ys|none=>none)
   |none=>none)
  |none=>none)
 |_=>none
def Od{ρ:Type}(rs:List RV)(e k:Nat)(T:U.Ty)(j:List (U.den T)->Option ρ)(en:Exit)(S:aH U):Option ρ:=
 match en with
 | .ret| .normal=>(match pA S rs with
  |some (.own id an)=>(match rowAt S id an e k T with|some ys=>j ys|none=>none)
  |_=>none)
 |_=>none
 def SZ(Γ:List (cD U))(sa:SA U)(rs:List RV)(e k:Nat)(T:U.Ty)(A_s:List (dv U))(r:me U)(xs:List (U.den T))(a:cU A_s):Option (r.den×List (U.den T)):=
 kK K Γ sa [] (some (0,[])) (R8 K rs r e k T fun v ys=>some (v,ys)) (OG e k T xs (pw K A_s a))
 def Xy(Γ:List (cD U))(sa:SA U)(rs:List RV)(e k:Nat)(T:U.Ty)(A_s:List (dv U))(xs:List (U.den T))(a:cU A_s):Option (List (U.den T)):=
 kK K Γ sa [] (some (0,[])) (Od rs e k T fun ys=>some ys) (OG e k T xs (pw K A_s a))
 def Xv(Γ:List (cD U))(sa:SA U)(rs:List RV)(A_s:List (dv U))(e k:Nat)(T:U.Ty)(a:cU A_s):Option (List (U.den T)):=
 kK K Γ sa [] (some (0,[])) (Od rs e k T fun ys=>some ys) (LJ (pw K A_s a))
variable {K}
theorem PT{ρ:Type}{rs:List RV}{r:me U}{e k:Nat}{T:U.Ty}{j:r.den->List (U.den T)->Option ρ}{en:Exit}{S:aH U}{z:ρ}(h:R8 K rs r e k T j en S=some z):
  (en= .ret\/en= .normal)/\∃x v ys,pA S rs=some x/\wo K (S.xH 0 0) (some 0) r x=some v/\(S.H 0).an=0/\(S.H 0).c= .row e k T ys/\j v ys=some z:=by
 have go:(match pA S rs with
  |some x=>(match wo K (S.xH 0 0) (some 0) r x with
   |some v=>(match rowAt S 0 0 e k T with|some ys=>j v ys|none=>none)
   |none=>none)
  |none=>none)=some z->∃x v ys,pA S rs=some x/\wo K (S.xH 0 0) (some 0) r x=some v/\(S.H 0).an=0/\(S.H 0).c= .row e k T ys/\j v ys=some z:=by
  intro he;split at he
  ·rename_i x hx;split at he
   ·rename_i v hv;split at he
    ·rename_i ys hys;obtain⟨h1,h2⟩:=FK hys;exact⟨x,v,ys,hx,hv,h1,h2,he⟩
    ·cases he
   ·cases he
  ·cases he
 unfold R8 at h;split at h
 ·exact⟨.inl rfl,go h⟩
 ·exact⟨.inr rfl,go h⟩
 ·cases h
theorem IQ{ρ:Type}{rs:List RV}{e k:Nat}{T:U.Ty}{j:List (U.den T)->Option ρ}{en:Exit}{S:aH U}{z:ρ}(h:Od rs e k T j en S=some z):
  (en= .ret\/en= .normal)/\∃id an ys,pA S rs=some (.own id an)/\(S.H id).an=an/\(S.H id).c= .row e k T ys/\j ys=some z:=by
 have go:(match pA S rs with
  |some (.own id an)=>(match rowAt S id an e k T with|some ys=>j ys|none=>none)
  |_=>none)=some z->∃id an ys,pA S rs=some (.own id an)/\(S.H id).an=an/\(S.H id).c= .row e k T ys/\j ys=some z:=by
  intro he;split at he
  ·rename_i id an hx;split at he
   ·rename_i ys hys;obtain⟨h1,h2⟩:=FK hys;exact⟨id,an,ys,hx,h1,h2,he⟩
   ·cases he
  ·cases he
 unfold Od at h;split at h
 ·exact⟨.inl rfl,go h⟩
 ·exact⟨.inr rfl,go h⟩
 ·cases h
theorem Ih{f:FuncId}{Γ:List (cD U)}{sa:SA U}{rs:List RV}{e k:Nat}{T:U.Ty}{A_s:List (dv U)}{r:me U}(hf:fH P f nt sa.erase rs)(hok:sa.cI=true)(hlen:1+A_s.length<=nt)(hΓ:oM P Γ)
  {F:List (U.den T)->cU A_s->Option (r.den×List (U.den T))} (hF:∀xs a,SZ K Γ sa rs e k T A_s r xs a=F xs a):cD.Sound P (.rw f e k T A_s r F):=by
 refine⟨hf.enters,fun xs a v ys hv=> ?_⟩
 rw[<-hF xs a]at hv;refine hf.XV (by simpa[qQ]using hlen) ?_
 rw[<-Nd (K:=K)];refine(du hΓ sa [] _ _ _ _ hok hv).mono ?_;rintro en A ⟨S',rfl,_,hk⟩;obtain⟨he,x,v',ys',h1,h2,h3,h4,h5⟩:=PT hk;injection h5 with h5
 injection h5 with h6 h7
 subst h6 h7
 have hH:S'.st.H 0=⟨0,.row e k (ys'.map (U.pv T))⟩:=by
  simp only[aH.st,cm.pv,h3,h4,cZ.pv]
 have hret:Hr rs e k (fun r' es''=>r'=oa r v'/\es''=ys'.map (U.pv T)) .ret S'.st:=by
  simp only[Hr];rw[yl h1];simp only[hH];refine⟨trivial,trivial,qC K T ys',?_,trivial⟩;rw[<-HS (K:=K) (EN S' 0 0) h2,HL]
 rcases he with rfl|rfl<;>exact hret
theorem K4{rs:List RV}{e k:Nat}{T:U.Ty}{S':aH U}{id an:Nat}{ys:List (U.den T)}(h1:pA S' rs=some (.own id an))(h2:(S'.H id).an=an)(h3:(S'.H id).c= .row e k T ys)(K:TK U):xv rs e k (fun es''=>es''=ys.map (U.pv T)) .ret S'.st:=by
 simp only[xv];rw[yl h1];simp only[KV.pv];refine⟨h2,?_⟩;have:(S'.st.H id).c= .row e k (ys.map (U.pv T)):=by simp only[aH.st,cm.pv,h3,cZ.pv]
 rw[this];exact⟨rfl,rfl,qC K T ys,rfl⟩
theorem PY{f:FuncId}{Γ:List (cD U)}{sa:SA U}{rs:List RV}{e k:Nat}{T:U.Ty}{A_s:List (dv U)}(hf:fH P f nt sa.erase rs)(hok:sa.cI=true)(hlen:1+A_s.length<=nt)(hΓ:oM P Γ)
  {F:List (U.den T)->cU A_s->Option (List (U.den T))} (hF:∀xs a,Xy K Γ sa rs e k T A_s xs a=F xs a):cD.Sound P (.cw f e k T A_s F):=by
 refine⟨hf.enters,fun xs a ys hv=> ?_⟩
 rw[<-hF xs a]at hv;refine hf.XY (by simpa[qQ]using hlen) ?_
 rw[<-Nd (K:=K)];refine(du hΓ sa [] _ _ _ _ hok hv).mono ?_;rintro en A ⟨S',rfl,_,hk⟩;obtain⟨he,id,an,ys',h1,h2,h3,h5⟩:=IQ hk;injection h5 with h5
 subst h5;have hret:=K4 h1 h2 h3 K;rcases he with rfl|rfl<;>exact hret
theorem PK{f:FuncId}{Γ:List (cD U)}{sa:SA U}{rs:List RV}{e k:Nat}{T:U.Ty}{A_s:List (dv U)}(hf:fH P f nt sa.erase rs)(hok:sa.cI=true)(hlen:A_s.length<=nt)(hΓ:oM P Γ)
  {F:cU A_s->Option (List (U.den T))} (hF:∀a,Xv K Γ sa rs A_s e k T a=F a):cD.Sound P (.fw f A_s e k T F):=by
 refine⟨hf.enters,fun a ys hv=> ?_⟩
 rw[<-hF a]at hv;refine hf.XX (by simpa[qQ]using hlen) ?_
 rw[<-H4 (K:=K)];refine(du hΓ sa [] _ _ _ _ hok hv).mono ?_;rintro en A ⟨S',rfl,_,hk⟩;obtain⟨he,id,an,ys',h1,h2,h3,h5⟩:=IQ hk;injection h5 with h5
 subst h5;have hret:=K4 h1 h2 h3 K;rcases he with rfl|rfl<;>exact hret
end
end Go.TQ
end
noncomputable section
namespace Go.TQ
def op{U:TU}(d:Nat)(x:bn)(r:RS U):RS U:= .op ⟨some d,none,x⟩ r
def Yr{U:TU}(d t:Nat)(b:Bool)(x:bn)(r:RS U):RS U:= .op ⟨some d,some (t,b),x⟩ r
def ops{U:TU}(x:bn)(r:RS U):RS U:= .op ⟨none,none,x⟩ r
def tm(t:Nat):aP:= .tmp t
def ci(n:Int):aP:= .rA (.int .i64 n)
def mv{U:TU}(d t:Nat)(r:RS U):RS U:=op d (.jS (tm t)) r
def mc{U:TU}(d:Nat)(n:Int)(r:RS U):RS U:=op d (.jS (ci n)) r
def ld{U:TU}(d t:Nat)(r:RS U):RS U:=op d (.load none (tm t)) r
def Ys{U:TU}(d k t:Nat)(r:RS U):RS U:=op d (.load (some k) (tm t)) r
def fa{U:TU}(d o t:Nat)(r:RS U):RS U:=op d (.sz o (tm t)) r
def ia{U:TU}(d k a b:Nat)(r:RS U):RS U:=op d (.mg k (tm a) (tm b)) r
def cl{U:TU}(d f:Nat)(l:List Nat)(r:RS U):RS U:=op d (.call f (l.map tm)) r
def sr{U:TU}(x:RS U)(c:SA U):SA U:= .seq (.pf x) c
def aJ(k:IntKind)(a b:Int):Int:=k.wrap (a+b)
def gJ(k:IntKind)(a b:Int):Int:=k.wrap (a - b)
def Yo(k:IntKind)(a b:Int):Int:=k.wrap (a*b)
def RG(k:IntKind)(a b:Int):Int:=k.wrap (a.tdiv b)
def Nw(_:IntKind)(a b:Int):Int:=a.tmod b
def E8(k:IntKind)(a b:Int):Int:=k.wrap ((BitVec.ofInt k.bits a&&&BitVec.ofInt k.bits b).toNat)
def sd(k:IntKind)(a b:Int):Int:=k.wrap ((BitVec.ofInt k.bits a|||BitVec.ofInt k.bits b).toNat)
def Ym(k:IntKind)(a b:Int):Int:=k.wrap ((BitVec.ofInt k.bits a^^^BitVec.ofInt k.bits b).toNat)
def tt(k:IntKind)(a b:Int):Int:=k.wrap ((BitVec.ofInt k.bits a&&& ~~~ BitVec.ofInt k.bits b).toNat)
def jk(k:IntKind)(a b:Int):Int:=k.wrap (a*2 ^ (min b.toNat k.bits))
def XL(k:IntKind)(a b:Int):Int:=a.fdiv (2 ^ (min b.toNat k.bits))
def On(k:IntKind)(n:Int):Int:=k.wrap n
def dD(a b:Int):Int:=if b<a then b else a
def bl(a b:Int):Int:=if b>a then b else a
def kV(neg:Bool)(a b:Int)(s t:ByteArray):Bool:=xor neg (decide (a=b)&&decide (s=t))
def iS{A R:Type}(B:(A->Option R)->A->Option R):Nat->A->Option R
 |0,_=>none
 |n+1,a=>B (iS B n) a
def yC{A C R:Type}(B:(A->C->Option R)->A->C->Option R):Nat->A->C->Option R
 |0,_,_=>none
 |n+1,a,c=>B (yC B n) a c
section
variable {U : TU}
inductive RN (U:TU) where
 |ps (p:Ps U)
 |uz (t:Nat)
def Rv(t:Nat):List SG->Option (List SG×SG×List SG)
 |[]=>none
 |o::r=>(match o.op with
  | .pick (.tmp t') _ _=>(match Nat.beq t t' with
   |true=>some ([],o,r)
   |false=>(match Rv t r with|some (b,q,r')=>some (o::b,q,r')|none=>none))
  |_=>(match Rv t r with|some (b,q,r')=>some (o::b,q,r')|none=>none))
def before(n:Nat):List (Nat×RN U)->List (Nat×RN U)
 |[]=>[]
 |(j,x)::l=>(match Nat.ble n j with|true=>[]|false=>(j,x)::before n l)
def after(n:Nat):List (Nat×RN U)->List (Nat×RN U)
 |[]=>[]
 |(j,x)::l=>(match Nat.ble n j with|true=>(j,x)::l|false=>after n l)
def sY(nT:Bool):Nat->List Nat->Nat->List SG->List (Nat×RN U)->RS U
 |0,_,_,_,_=> .nil
 |f+1,kn,i,[],ns=>(match ns with
  |(_,.ps p)::ns'=> .ps p (sY nT f kn i [] ns')
  |(_,.uz t)::ns'=> .uz t (sY nT f (t::kn) i [] ns')
  |[]=> .nil)
 |f+1,kn,i,o::r,ns=>(match(match ns with|(j,_)::_=>Nat.beq j i|[]=>false)with
  |true=>(match ns with
   |(_,.ps p)::ns'=> .ps p (sY nT f kn i (o::r) ns')
   |(_,.uz t)::ns'=> .uz t (sY nT f (t::kn) i (o::r) ns')
   |[]=> .nil)
  |false=>(match o.g with
   |none=> .op o (sY nT f kn (Nat.succ i) r ns)
   |some (t,w)=>(match fG t kn with
    |true=> .op o (sY nT f kn (Nat.succ i) r ns)
    |false=>(match nT with
     |true=> .uz t (sY nT f (t::kn) i (o::r) ns)
     |false=>(match Rv t (o::r)with
      |some (b,q,r')=>(match q.op with
       | .pick _ x y=> .ite t w (sY nT f (t::kn) i b (before (Nat.add i b.length) ns)) (q.d.getD 0) q.g x y (sY nT f kn (Nat.succ (Nat.add i b.length)) r' (after (Nat.add i b.length) ns))
       |_=> .nil)
      |none=> .nil)))))
inductive NT (U:TU) where
 |e
 |l (x:NT U)
 |r (x:NT U)
 |b (x y:NT U)
 |ps (p:Ps U) (x:NT U)
 |DB (p:Ps U) (x:NT U)
 |j (J:JS U) (x:NT U)
 |u (n:Nat) (x:NT U)
 |k (J:JS U) (f k:Nat) (nE:Option Nat) (T:U.Ty) (x:NT U)
 |g (ns:List (Nat×RN U))
def NT.lt:NT U->NT U
 | .l x=>x
 | .b x _=>x
 | .j _ x=>x.lt
 | .k _ _ _ _ _ x=>x.lt
 | .ps _ x=>x.lt
 | .DB _ x=>x.lt
 |_=> .e
def NT.rt:NT U->NT U
 | .r x=>x
 | .b _ x=>x
 | .j _ x=>x.rt
 | .k _ _ _ _ _ x=>x.rt
 | .ps _ x=>x.rt
 | .DB _ x=>x.rt
 |_=> .e
def NT.wrap:NT U->SA U->SA U
 | .ps p x,s=> .ps p (x.wrap s)
 | .DB p x,s=> .DB p (x.wrap s)
 |_,s=>s
def NT.core:NT U->NT U
 | .ps _ x=>x.core
 | .DB _ x=>x.core
 |x=>x
def aC:SC->NT U->SA U
 | .skip,t=>t.wrap .skip
 | .pf ops,t=>t.wrap (.pf (match t.core with| .g ns=>sY false 4000 [] 0 ops ns|_=>sY false 4000 [] 0 ops []))
 | .nT un ops,t=>t.wrap (.nT un (match t.core with| .g ns=>sY true 4000 [] 0 ops ns|_=>sY true 4000 [] 0 ops []))
 | .seq x y,t=>t.wrap (match t.core with
  | .j J u=> .join J (aC x u.lt) (aC y u.rt)
  |u=> .seq (aC x u.lt) (aC y u.rt))
 | .cond c x y,t=>t.wrap (.cond c (aC x t.lt) (aC y t.rt))
 | .block id x,t=>t.wrap (.block id (aC x t.lt))
 | .loop x,t=>t.wrap (match t.core with
  | .j J u=> .loop J (aC x u.lt)
  | .u n t=> .OV n (aC x t.lt)
  |_=> .loop ⟨[],[]⟩ (aC x t.lt))
 | .yk g ps x y,t=>t.wrap (match t.core with
  | .k J f k nE T u=>(match g with
   | .tmp tg=> .back J f k nE T tg (ps.headD 0) (ps.tail.headD 0) (aC x u.lt) (aC y u.rt)
   |_=> .skip)
  |_=> .skip)
 | .exit id,t=>t.wrap (.exit id)
 | .ret,t=>t.wrap .ret
def aG(P:Program)(nt:Nat)(hs:List Nat)(fn:Func):SC:=(fn.body.bind (ay P nt hs)).getD .skip
end
section
variable {U : TU} {P : Program}
structure KS (U:TU) (P:Program) where
 k:cD U
 s:k.Sound P
def KS.ks:List (KS U P)->List (cD U)
 |[]=>[]
 |x::l=>x.k::KS.ks l
theorem KS.all:∀l:List (KS U P),oM P (KS.ks l)
 |[]=>trivial
 |x::l=>⟨x.s,KS.all l⟩
variable {K : TK U} {f : FuncId} {A_s : List (dv U)} {r : me U} {e k : Nat} {T R : U.Ty}
theorem fk{f nt:Nat}{c:SC}{rs:List RV}(fn:Func)(hs:List Nat)(hf:P.funcs[f]?=some fn)(h0:fn.ntmps=nt:=by rfl)(h1:(fn.body.bind (ay P nt hs))=some c:=by kernel_rfl)(h2:k7 P fn.results.toList=some rs:=by kernel_rfl)(h3:(fn.name== "runtime.NumGoroutine")=false:=by kernel_rfl):fH P f nt c rs:=⟨fn,hs,hf,h0,h1,h2,h3⟩
theorem bf(sa:SA U)(nt:Nat)(rs:List RV)(G:List (KS U P))(hf:fH P f nt sa.erase rs)(hok:sa.cI=true:=by kernel_rfl)(hlen:A_s.length<=nt:=by decide){F:cU A_s->Option r.den}(hF:MQ K (KS.ks G) sa rs A_s r=F:=by kernel_rfl):cD.Sound P (.fn f A_s r F):=
 BY hf hok hlen (KS.all G) fun a=>congrFun hF a
theorem tM{pos:Nat}(sa:SA U)(nt:Nat)(rs:List RV)(G:List (KS U P))(hf:fH P f nt sa.erase rs)(hok:sa.cI=true:=by kernel_rfl)(hlen:1+A_s.length<=nt:=by decide){F:U.den R->cU A_s->Option (r.den×U.den R)}(hF:Xo K (KS.ks G) sa rs pos R A_s r=F:=by kernel_rfl):cD.Sound P (.rc f pos R A_s r F):=
 O4 hf hok hlen (KS.all G) fun s a=>congrFun (congrFun hF s) a
theorem X4{pos:Nat}{F:U.den R->cU A_s->Option (r.den×U.den R)}(h:cD.Sound P (.rc f pos R A_s r F))(hs:∀s a q,F s a=some q->q.2=s):cD.Sound P (.ro f pos R A_s r F):=
 ⟨h.1,fun s a v s' hv=>⟨hs s a _ hv,h.2 s a v s' hv⟩⟩
theorem X7(sa:SA U)(nt t:Nat)(G:List (KS U P))(hf:fH P f nt sa.erase [.tmp t])(hok:sa.cI=true:=by kernel_rfl)(hlen:A_s.length<=nt:=by decide){F:cU A_s->Option (U.den R)}(hF:Xq K (KS.ks G) sa [.tmp t] A_s R=F:=by kernel_rfl):cD.Sound P (.nw f A_s R F):=
 Pp hf hok hlen (KS.all G) fun a=>congrFun hF a
theorem Yq(sa:SA U)(nt:Nat)(rs:List RV)(G:List (KS U P))(hf:fH P f nt sa.erase rs)(hok:sa.cI=true:=by kernel_rfl)(hlen:1+A_s.length<=nt:=by decide){F:List (U.den T)->cU A_s->Option (r.den×List (U.den T))}(hF:SZ K (KS.ks G) sa rs e k T A_s r=F:=by kernel_rfl):cD.Sound P (.rw f e k T A_s r F):=
 Ih hf hok hlen (KS.all G) fun s a=>congrFun (congrFun hF s) a
theorem Ld(sa:SA U)(nt:Nat)(rs:List RV)(G:List (KS U P))(hf:fH P f nt sa.erase rs)(hok:sa.cI=true:=by kernel_rfl)(hlen:1+A_s.length<=nt:=by decide){F:List (U.den T)->cU A_s->Option (List (U.den T))}(hF:Xy K (KS.ks G) sa rs e k T A_s=F:=by kernel_rfl):cD.Sound P (.cw f e k T A_s F):=
 PY hf hok hlen (KS.all G) fun s a=>congrFun (congrFun hF s) a
theorem Xu(sa:SA U)(nt:Nat)(rs:List RV)(G:List (KS U P))(hf:fH P f nt sa.erase rs)(hok:sa.cI=true:=by kernel_rfl)(hlen:A_s.length<=nt:=by decide){F:cU A_s->Option (List (U.den T))}(hF:Xv K (KS.ks G) sa rs A_s e k T=F:=by kernel_rfl):cD.Sound P (.fw f A_s e k T F):=
 PK hf hok hlen (KS.all G) fun a=>congrFun hF a
theorem Xw(sa:SA U)(nt:Nat)(rs:List RV)(G:List (KS U P))(hf:fH P f nt sa.erase rs)(hok:sa.cI=true:=by kernel_rfl)(hlen:A_s.length<=nt:=by decide){B:(cU A_s->Option r.den)->cU A_s->Option r.den}(hB:(fun g=>MQ K (.fn f A_s r g::KS.ks G) sa rs A_s r)=B):∀n,cD.Sound P (.fn f A_s r (iS B n))
 |0=>⟨hf.enters,fun a r h=>by cases h⟩
 |n+1=>BY (K:=K) (Γ:= .fn f A_s r (iS B n)::KS.ks G) (F:=iS B (n+1)) hf hok hlen ⟨Xw sa nt rs G hf hok hlen hB n,KS.all G⟩ fun a=>congrFun (congrFun hB (iS B n)) a
theorem zP(sa:SA U)(nt:Nat)(rs:List RV)(G:List (KS U P))(hf:fH P f nt sa.erase rs)(hok:sa.cI=true:=by kernel_rfl)(hlen:A_s.length<=nt:=by decide){B:(cU A_s->Option r.den)->cU A_s->Option r.den}(hB:(fun g=>MQ K (.fn f A_s r g::KS.ks G) sa rs A_s r)=B:=by kernel_rfl){F:cU A_s->Option r.den}(hF:∀a,∃n,F a=iS B n a):cD.Sound P (.fn f A_s r F):=
 ⟨hf.enters,fun a r h=>by
  obtain⟨n,hn⟩:=hF a;rw[hn]at h
  exact(Xw sa nt rs G hf hok hlen hB n).2 a r h⟩
theorem N3(sa:SA U)(nt:Nat)(rs:List RV)(G:(g:cU A_s->Option r.den)->cD.Sound P (.fn f A_s r g)->List (KS U P))(hf:fH P f nt sa.erase rs)(hok:sa.cI=true:=by kernel_rfl)(hlen:A_s.length<=nt:=by decide){B:(cU A_s->Option r.den)->cU A_s->Option r.den}(hB:(fun g h=>MQ K (.fn f A_s r g::KS.ks (G g h)) sa rs A_s r)=fun g _=>B g):∀n,cD.Sound P (.fn f A_s r (iS B n))
 |0=>⟨hf.enters,fun a r h=>by cases h⟩
 |n+1=>BY (K:=K) (Γ:= .fn f A_s r (iS B n)::KS.ks (G (iS B n) (N3 sa nt rs G hf hok hlen hB n))) (F:=iS B (n+1)) hf hok hlen ⟨N3 sa nt rs G hf hok hlen hB n,KS.all _⟩ fun a=>congrFun (congrFun (congrFun hB (iS B n)) (N3 sa nt rs G hf hok hlen hB n)) a
theorem WG(sa:SA U)(nt:Nat)(rs:List RV)(G:(g:cU A_s->Option r.den)->cD.Sound P (.fn f A_s r g)->List (KS U P))(hf:fH P f nt sa.erase rs)(hok:sa.cI=true:=by kernel_rfl)(hlen:A_s.length<=nt:=by decide){B:(cU A_s->Option r.den)->cU A_s->Option r.den}(hB:(fun g h=>MQ K (.fn f A_s r g::KS.ks (G g h)) sa rs A_s r)=(fun g _=>B g):=by kernel_rfl){F:cU A_s->Option r.den}(hF:∀a,∃n,F a=iS B n a):cD.Sound P (.fn f A_s r F):=
 ⟨hf.enters,fun a r h=>by
  obtain⟨n,hn⟩:=hF a;rw[hn]at h
  exact(N3 sa nt rs G hf hok hlen hB n).2 a r h⟩
theorem Xn(sa:SA U)(nt:Nat)(rs:List RV)(G:List (KS U P))(hf:fH P f nt sa.erase rs)(hok:sa.cI=true:=by kernel_rfl)(hlen:1+A_s.length<=nt:=by decide){B:(List (U.den T)->cU A_s->Option (r.den×List (U.den T)))->List (U.den T)->cU A_s->Option (r.den×List (U.den T))}(hB:(fun g=>SZ K (.rw f e k T A_s r g::KS.ks G) sa rs e k T A_s r)=B):∀n,cD.Sound P (.rw f e k T A_s r (yC B n))
 |0=>⟨hf.enters,fun s a r ys h=>by cases h⟩
 |n+1=>Ih (K:=K) (Γ:= .rw f e k T A_s r (yC B n)::KS.ks G) (F:=yC B (n+1)) hf hok hlen ⟨Xn sa nt rs G hf hok hlen hB n,KS.all G⟩ fun s a=>congrFun (congrFun (congrFun hB (yC B n)) s) a
theorem Yn(sa:SA U)(nt:Nat)(rs:List RV)(G:List (KS U P))(hf:fH P f nt sa.erase rs)(hok:sa.cI=true:=by kernel_rfl)(hlen:1+A_s.length<=nt:=by decide){B:(List (U.den T)->cU A_s->Option (r.den×List (U.den T)))->List (U.den T)->cU A_s->Option (r.den×List (U.den T))}(hB:(fun g=>SZ K (.rw f e k T A_s r g::KS.ks G) sa rs e k T A_s r)=B:=by kernel_rfl){F:List (U.den T)->cU A_s->Option (r.den×List (U.den T))}(hF:∀s a,∃n,F s a=yC B n s a):cD.Sound P (.rw f e k T A_s r F):=
 ⟨hf.enters,fun s a r ys h=>by
  obtain⟨n,hn⟩:=hF s a;rw[hn]at h
  exact(Xn sa nt rs G hf hok hlen hB n).2 s a r ys h⟩
end
end Go.TQ
end
noncomputable section
namespace Go.TQ
structure aq where
 aZ:Int
 bu:(List Int)
 aS:(List aq)
theorem aq.eta(x:aq):aq.mk x.aZ x.bu x.aS=x:=by cases x;rfl
@[reducible] def ao (x:aq):aq:=aq.mk x.aZ x.bu x.aS
structure af where
 aj:Int
 Value:ByteArray
@[simp] theorem af.eta (x:af):af.mk x.aj x.Value=x:=rfl
structure ai where
 ar:Int
 bs:Int
 aK:Int
 ae:aq
 bQ:Int
 aa:af
 al:af
 aw:af
 aN:Int
 bc:Int
@[simp] theorem ai.eta (x:ai):ai.mk x.ar x.bs x.aK x.ae x.bQ x.aa x.al x.aw x.aN x.bc=x:=rfl
structure ab where
 ar:Int
 bs:Int
 aK:Int
 ae:aq
 aA:Int
 aa:af
 al:af
 aw:af
 au:af
 aN:Int
 bc:Int
 bj:ByteArray
 aB:(List ai)
@[simp] theorem ab.eta (x:ab):ab.mk x.ar x.bs x.aK x.ae x.aA x.aa x.al x.aw x.au x.aN x.bc x.bj x.aB=x:=rfl
structure aU where
 dm:Bool
 ae:aq
@[simp] theorem aU.eta (x:aU):aU.mk x.dm x.ae=x:=rfl
structure bh where
 bE:(List aU)
@[simp] theorem bh.eta (x:bh):bh.mk x.bE=x:=rfl
structure iQ where
 L:(List Int)
 At:Int
@[simp] theorem iQ.eta (x:iQ):iQ.mk x.L x.At=x:=rfl
structure ax where
 ak:ab
@[simp] theorem ax.eta (x:ax):ax.mk x.ak=x:=rfl
structure Af where
 aE:Int
 low:Int
 bP:Int
 aF:af
 dp:af
 bG:af
 c5:af
@[simp] theorem Af.eta (x:Af):Af.mk x.aE x.low x.bP x.aF x.dp x.bG x.c5=x:=rfl
structure bb where
 av:ai
@[simp] theorem bb.eta (x:bb):bb.mk x.av=x:=rfl
structure eN where
 ar:Int
 View:bh
 aB:(List bb)
@[simp] theorem eN.eta (x:eN):eN.mk x.ar x.View x.aB=x:=rfl
structure lT where
 c0:af
 c1:af
@[simp] theorem lT.eta (x:lT):lT.mk x.c0 x.c1=x:=rfl
structure qR where
 c0:Int
 c1:Int
@[simp] theorem qR.eta (x:qR):qR.mk x.c0 x.c1=x:=rfl
attribute [simp] aq.eta
inductive jE where
 |ae
 |aa
 |av
 |ak
 |jT
 |Config
 |Src
 |dg
 |DV
 |gf
 |Seen
 |km
 |nI
 deriving DecidableEq
inductive Ty where
 |i (k:IntKind)
 |bool
 |str
 |sl (t:Ty)
 |mp (a b:Ty)
 |st (n:jE)
def jE.den:jE->Type
 | .ae=>aq
 | .aa=>af
 | .av=>ai
 | .ak=>ab
 | .jT=>aU
 | .Config=>bh
 | .Src=>iQ
 | .dg=>ax
 | .DV=>Af
 | .gf=>bb
 | .Seen=>eN
 | .km=>lT
 | .nI=>qR
def Ty.den:Ty->Type
 | .i _=>Int
 | .bool=>Bool
 | .str=>ByteArray
 | .sl t=>List t.den
 | .mp a b=>List (a.den×b.den)
 | .st n=>n.den
def Ty.beq:Ty->Ty->Bool
 | .i k,.i k'=>decide (k=k')
 | .bool,.bool=>true
 | .str,.str=>true
 | .sl t,.sl t'=>Ty.beq t t'
 | .mp a b,.mp a' b'=>Ty.beq a a'&&Ty.beq b b'
 | .st n,.st n'=>decide (n=n')
 |_,_=>false
theorem Ty.eq_of_beq:∀{a b:Ty},Ty.beq a b=true->a=b
 | .i k,.i k',h=>by rw[of_decide_eq_true h]
 | .bool,.bool,_=>rfl
 | .str,.str,_=>rfl
 | .sl t,.sl t',h=>by rw[Ty.eq_of_beq (a:=t) (b:=t') h]
 | .mp a b,.mp a' b',h=>by
  rw[Ty.beq,Qm]at h;rw[Ty.eq_of_beq (a:=a) (b:=a') h.1,Ty.eq_of_beq (a:=b) (b:=b') h.2]
 | .st n,.st n',h=>by rw[of_decide_eq_true h]
 | .i _,.bool,h=>by cases h
 | .i _,.str,h=>by cases h
 | .i _,.sl _,h=>by cases h
 | .i _,.st _,h=>by cases h
 | .bool,.i _,h=>by cases h
 | .bool,.str,h=>by cases h
 | .bool,.sl _,h=>by cases h
 | .bool,.st _,h=>by cases h
 | .str,.i _,h=>by cases h
 | .str,.bool,h=>by cases h
 | .str,.sl _,h=>by cases h
 | .str,.st _,h=>by cases h
 | .sl _,.i _,h=>by cases h
 | .sl _,.bool,h=>by cases h
 | .sl _,.str,h=>by cases h
 | .sl _,.st _,h=>by cases h
 | .st _,.i _,h=>by cases h
 | .st _,.bool,h=>by cases h
 | .st _,.str,h=>by cases h
 | .st _,.sl _,h=>by cases h
 | .mp _ _,.i _,h=>by cases h
 | .i _,.mp _ _,h=>by cases h
 | .mp _ _,.bool,h=>by cases h
 | .bool,.mp _ _,h=>by cases h
 | .mp _ _,.str,h=>by cases h
 | .str,.mp _ _,h=>by cases h
 | .mp _ _,.sl _,h=>by cases h
 | .sl _,.mp _ _,h=>by cases h
 | .mp _ _,.st _,h=>by cases h
 | .st _,.mp _ _,h=>by cases h
theorem Ty.Aa:∀(a:Ty),Ty.beq a a=true
 | .i k=>Qg rfl
 | .bool=>rfl
 | .str=>rfl
 | .sl t=>Ty.Aa t
 | .mp a b=>by rw[Ty.beq,Ty.Aa a,Ty.Aa b];rfl
 | .st n=>Qg rfl
def Ty.MV(a b:Ty):Decidable (a=b):=
 match h:Ty.beq a b with
 |true=>isTrue (Ty.eq_of_beq h)
 |false=>isFalse fun e=>by rw[e,Ty.Aa]at h;cases h
@[reducible] def wB:List Ty->Type
 |[]=>Unit
 |t::l=>t.den×wB l
def jE.leaves:jE->List Ty
 | .ae=>[(Ty.i .i64),(Ty.sl (Ty.i .i64)),(Ty.sl (Ty.st .ae))]
 | .aa=>[(Ty.i .i64),Ty.str]
 | .av=>[(Ty.i .i64),(Ty.i .i64),(Ty.i .i64),(Ty.i .i64),(Ty.sl (Ty.i .i64)),(Ty.sl (Ty.st .ae)),(Ty.i .i64),(Ty.i .i64),Ty.str,(Ty.i .i64),Ty.str,(Ty.i .i64),Ty.str,(Ty.i .i64),(Ty.i .i64)]
 | .ak=>[(Ty.i .i64),(Ty.i .i64),(Ty.i .i64),(Ty.i .i64),(Ty.sl (Ty.i .i64)),(Ty.sl (Ty.st .ae)),(Ty.i .i64),(Ty.i .i64),Ty.str,(Ty.i .i64),Ty.str,(Ty.i .i64),Ty.str,(Ty.i .i64),Ty.str,(Ty.i .i64),(Ty.i .i64),Ty.str,(Ty.sl (Ty.st .av))]
 | .jT=>[Ty.bool,(Ty.i .i64),(Ty.sl (Ty.i .i64)),(Ty.sl (Ty.st .ae))]
 | .Config=>[(Ty.sl (Ty.st .jT))]
 | .Src=>[(Ty.sl (Ty.i .i64)),(Ty.i .i64)]
 | .dg=>[(Ty.i .i64),(Ty.i .i64),(Ty.i .i64),(Ty.i .i64),(Ty.sl (Ty.i .i64)),(Ty.sl (Ty.st .ae)),(Ty.i .i64),(Ty.i .i64),Ty.str,(Ty.i .i64),Ty.str,(Ty.i .i64),Ty.str,(Ty.i .i64),Ty.str,(Ty.i .i64),(Ty.i .i64),Ty.str,(Ty.sl (Ty.st .av))]
 | .DV=>[(Ty.i .i64),(Ty.i .i64),(Ty.i .i64),(Ty.i .i64),Ty.str,(Ty.i .i64),Ty.str,(Ty.i .i64),Ty.str,(Ty.i .i64),Ty.str]
 | .gf=>[(Ty.i .i64),(Ty.i .i64),(Ty.i .i64),(Ty.i .i64),(Ty.sl (Ty.i .i64)),(Ty.sl (Ty.st .ae)),(Ty.i .i64),(Ty.i .i64),Ty.str,(Ty.i .i64),Ty.str,(Ty.i .i64),Ty.str,(Ty.i .i64),(Ty.i .i64)]
 | .Seen=>[(Ty.i .i64),(Ty.sl (Ty.st .jT)),(Ty.sl (Ty.st .gf))]
 | .km=>[(Ty.i .i64),Ty.str,(Ty.i .i64),Ty.str]
 | .nI=>[(Ty.i .i64),(Ty.i .i64)]
def jE.toL:(n:jE)->n.den->wB n.leaves
 | .ae,(v:aq)=>(v.aZ,v.bu,v.aS,())
 | .aa,(v:af)=>(v.aj,v.Value,())
 | .av,(v:ai)=>(v.ar,v.bs,v.aK,v.ae.aZ,v.ae.bu,v.ae.aS,v.bQ,v.aa.aj,v.aa.Value,v.al.aj,v.al.Value,v.aw.aj,v.aw.Value,v.aN,v.bc,())
 | .ak,(v:ab)=>(v.ar,v.bs,v.aK,v.ae.aZ,v.ae.bu,v.ae.aS,v.aA,v.aa.aj,v.aa.Value,v.al.aj,v.al.Value,v.aw.aj,v.aw.Value,v.au.aj,v.au.Value,v.aN,v.bc,v.bj,v.aB,())
 | .jT,(v:aU)=>(v.dm,v.ae.aZ,v.ae.bu,v.ae.aS,())
 | .Config,(v:bh)=>(v.bE,())
 | .Src,(v:iQ)=>(v.L,v.At,())
 | .dg,(v:ax)=>(v.ak.ar,v.ak.bs,v.ak.aK,v.ak.ae.aZ,v.ak.ae.bu,v.ak.ae.aS,v.ak.aA,v.ak.aa.aj,v.ak.aa.Value,v.ak.al.aj,v.ak.al.Value,v.ak.aw.aj,v.ak.aw.Value,v.ak.au.aj,v.ak.au.Value,v.ak.aN,v.ak.bc,v.ak.bj,v.ak.aB,())
 | .DV,(v:Af)=>(v.aE,v.low,v.bP,v.aF.aj,v.aF.Value,v.dp.aj,v.dp.Value,v.bG.aj,v.bG.Value,v.c5.aj,v.c5.Value,())
 | .gf,(v:bb)=>(v.av.ar,v.av.bs,v.av.aK,v.av.ae.aZ,v.av.ae.bu,v.av.ae.aS,v.av.bQ,v.av.aa.aj,v.av.aa.Value,v.av.al.aj,v.av.al.Value,v.av.aw.aj,v.av.aw.Value,v.av.aN,v.av.bc,())
 | .Seen,(v:eN)=>(v.ar,v.View.bE,v.aB,())
 | .km,(v:lT)=>(v.c0.aj,v.c0.Value,v.c1.aj,v.c1.Value,())
 | .nI,(v:qR)=>(v.c0,v.c1,())
def jE.Ta:(n:jE)->wB n.leaves->n.den
 | .ae,v=>(aq.mk v.1 v.2.1 v.2.2.1)
 | .aa,v=>(af.mk v.1 v.2.1)
 | .av,v=>(ai.mk v.1 v.2.1 v.2.2.1 (aq.mk v.2.2.2.1 v.2.2.2.2.1 v.2.2.2.2.2.1) v.2.2.2.2.2.2.1 (af.mk v.2.2.2.2.2.2.2.1 v.2.2.2.2.2.2.2.2.1) (af.mk v.2.2.2.2.2.2.2.2.2.1 v.2.2.2.2.2.2.2.2.2.2.1) (af.mk v.2.2.2.2.2.2.2.2.2.2.2.1 v.2.2.2.2.2.2.2.2.2.2.2.2.1) v.2.2.2.2.2.2.2.2.2.2.2.2.2.1 v.2.2.2.2.2.2.2.2.2.2.2.2.2.2.1)
 | .ak,v=>(ab.mk v.1 v.2.1 v.2.2.1 (aq.mk v.2.2.2.1 v.2.2.2.2.1 v.2.2.2.2.2.1) v.2.2.2.2.2.2.1 (af.mk v.2.2.2.2.2.2.2.1 v.2.2.2.2.2.2.2.2.1) (af.mk v.2.2.2.2.2.2.2.2.2.1 v.2.2.2.2.2.2.2.2.2.2.1) (af.mk v.2.2.2.2.2.2.2.2.2.2.2.1 v.2.2.2.2.2.2.2.2.2.2.2.2.1) (af.mk v.2.2.2.2.2.2.2.2.2.2.2.2.2.1 v.2.2.2.2.2.2.2.2.2.2.2.2.2.2.1) v.2.2.2.2.2.2.2.2.2.2.2.2.2.2.2.1 v.2.2.2.2.2.2.2.2.2.2.2.2.2.2.2.2.1 v.2.2.2.2.2.2.2.2.2.2.2.2.2.2.2.2.2.1 v.2.2.2.2.2.2.2.2.2.2.2.2.2.2.2.2.2.2.1)
 | .jT,v=>(aU.mk v.1 (aq.mk v.2.1 v.2.2.1 v.2.2.2.1))
 | .Config,v=>(bh.mk v.1)
 | .Src,v=>(iQ.mk v.1 v.2.1)
 | .dg,v=>(ax.mk (ab.mk v.1 v.2.1 v.2.2.1 (aq.mk v.2.2.2.1 v.2.2.2.2.1 v.2.2.2.2.2.1) v.2.2.2.2.2.2.1 (af.mk v.2.2.2.2.2.2.2.1 v.2.2.2.2.2.2.2.2.1) (af.mk v.2.2.2.2.2.2.2.2.2.1 v.2.2.2.2.2.2.2.2.2.2.1) (af.mk v.2.2.2.2.2.2.2.2.2.2.2.1 v.2.2.2.2.2.2.2.2.2.2.2.2.1) (af.mk v.2.2.2.2.2.2.2.2.2.2.2.2.2.1 v.2.2.2.2.2.2.2.2.2.2.2.2.2.2.1) v.2.2.2.2.2.2.2.2.2.2.2.2.2.2.2.1 v.2.2.2.2.2.2.2.2.2.2.2.2.2.2.2.2.1 v.2.2.2.2.2.2.2.2.2.2.2.2.2.2.2.2.2.1 v.2.2.2.2.2.2.2.2.2.2.2.2.2.2.2.2.2.2.1))
 | .DV,v=>(Af.mk v.1 v.2.1 v.2.2.1 (af.mk v.2.2.2.1 v.2.2.2.2.1) (af.mk v.2.2.2.2.2.1 v.2.2.2.2.2.2.1) (af.mk v.2.2.2.2.2.2.2.1 v.2.2.2.2.2.2.2.2.1) (af.mk v.2.2.2.2.2.2.2.2.2.1 v.2.2.2.2.2.2.2.2.2.2.1))
 | .gf,v=>(bb.mk (ai.mk v.1 v.2.1 v.2.2.1 (aq.mk v.2.2.2.1 v.2.2.2.2.1 v.2.2.2.2.2.1) v.2.2.2.2.2.2.1 (af.mk v.2.2.2.2.2.2.2.1 v.2.2.2.2.2.2.2.2.1) (af.mk v.2.2.2.2.2.2.2.2.2.1 v.2.2.2.2.2.2.2.2.2.2.1) (af.mk v.2.2.2.2.2.2.2.2.2.2.2.1 v.2.2.2.2.2.2.2.2.2.2.2.2.1) v.2.2.2.2.2.2.2.2.2.2.2.2.2.1 v.2.2.2.2.2.2.2.2.2.2.2.2.2.2.1))
 | .Seen,v=>(eN.mk v.1 (bh.mk v.2.1) v.2.2.1)
 | .km,v=>(lT.mk (af.mk v.1 v.2.1) (af.mk v.2.2.1 v.2.2.2.1))
 | .nI,v=>(qR.mk v.1 v.2.1)
mutual
def lu:aq->List PV
 |⟨a0,a1,a2⟩=>[.int .i64 a0,.sl (a1.map (fun x=>[.int .i64 x])),.sl (rW a2)]
def rW:List aq->List (List PV)
 |[]=>[]
 |x::l=>lu x::rW l
end
theorem ym:∀(l:List aq),rW l=l.map lu
 |[]=>by rw[rW];rfl
 |x::l=>by rw[rW,ym l];rfl
def ND(v:af):List PV:=[.int .i64 v.aj,.str v.Value]
def vN(v:ai):List PV:=[.int .i64 v.ar,.int .i64 v.bs,.int .i64 v.aK,.int .i64 v.ae.aZ,.sl (v.ae.bu.map (fun x=>[.int .i64 x])),.sl (v.ae.aS.map lu),.int .i64 v.bQ,.int .i64 v.aa.aj,.str v.aa.Value,.int .i64 v.al.aj,.str v.al.Value,.int .i64 v.aw.aj,.str v.aw.Value,.int .i64 v.aN,.int .i64 v.bc]
def L8(v:ab):List PV:=[.int .i64 v.ar,.int .i64 v.bs,.int .i64 v.aK,.int .i64 v.ae.aZ,.sl (v.ae.bu.map (fun x=>[.int .i64 x])),.sl (v.ae.aS.map lu),.int .i64 v.aA,.int .i64 v.aa.aj,.str v.aa.Value,.int .i64 v.al.aj,.str v.al.Value,.int .i64 v.aw.aj,.str v.aw.Value,.int .i64 v.au.aj,.str v.au.Value,.int .i64 v.aN,.int .i64 v.bc,.str v.bj,.sl (v.aB.map vN)]
def zk(v:aU):List PV:=[.bool v.dm,.int .i64 v.ae.aZ,.sl (v.ae.bu.map (fun x=>[.int .i64 x])),.sl (v.ae.aS.map lu)]
def NC(v:bh):List PV:=[.sl (v.bE.map zk)]
def TM(v:iQ):List PV:=[.sl (v.L.map (fun x=>[.int .i64 x])),.int .i64 v.At]
def NB(v:ax):List PV:=[.int .i64 v.ak.ar,.int .i64 v.ak.bs,.int .i64 v.ak.aK,.int .i64 v.ak.ae.aZ,.sl (v.ak.ae.bu.map (fun x=>[.int .i64 x])),.sl (v.ak.ae.aS.map lu),.int .i64 v.ak.aA,.int .i64 v.ak.aa.aj,.str v.ak.aa.Value,.int .i64 v.ak.al.aj,.str v.ak.al.Value,.int .i64 v.ak.aw.aj,.str v.ak.aw.Value,.int .i64 v.ak.au.aj,.str v.ak.au.Value,.int .i64 v.ak.aN,.int .i64 v.ak.bc,.str v.ak.bj,.sl (v.ak.aB.map vN)]
def TN(v:Af):List PV:=[.int .i64 v.aE,.int .i64 v.low,.int .i64 v.bP,.int .i64 v.aF.aj,.str v.aF.Value,.int .i64 v.dp.aj,.str v.dp.Value,.int .i64 v.bG.aj,.str v.bG.Value,.int .i64 v.c5.aj,.str v.c5.Value]
def Im(v:bb):List PV:=[.int .i64 v.av.ar,.int .i64 v.av.bs,.int .i64 v.av.aK,.int .i64 v.av.ae.aZ,.sl (v.av.ae.bu.map (fun x=>[.int .i64 x])),.sl (v.av.ae.aS.map lu),.int .i64 v.av.bQ,.int .i64 v.av.aa.aj,.str v.av.aa.Value,.int .i64 v.av.al.aj,.str v.av.al.Value,.int .i64 v.av.aw.aj,.str v.av.aw.Value,.int .i64 v.av.aN,.int .i64 v.av.bc]
def RH(v:eN):List PV:=[.int .i64 v.ar,.sl (v.View.bE.map zk),.sl (v.aB.map Im)]
def Ht(v:lT):List PV:=[.int .i64 v.c0.aj,.str v.c0.Value,.int .i64 v.c1.aj,.str v.c1.Value]
def L9(v:qR):List PV:=[.int .i64 v.c0,.int .i64 v.c1]
def jE.pv:(n:jE)->n.den->List PV
 | .ae,v=>lu v
 | .aa,v=>ND v
 | .av,v=>vN v
 | .ak,v=>L8 v
 | .jT,v=>zk v
 | .Config,v=>NC v
 | .Src,v=>TM v
 | .dg,v=>NB v
 | .DV,v=>TN v
 | .gf,v=>Im v
 | .Seen,v=>RH v
 | .km,v=>Ht v
 | .nI,v=>L9 v
def Ty.isAgg:Ty->Bool
 | .st _=>true
 |_=>false
def SN(t:Ty)(cs:List PV):PV:=match t.isAgg with|true=> .agg cs|false=>cs.headD .any
def Ty.pv:(t:Ty)->t.den->List PV
 | .i k,n=>[.int k n]
 | .bool,b=>[.bool b]
 | .str,s=>[.str s]
 | .sl t,(xs:List t.den)=>[.sl (xs.map (Ty.pv t))]
 | .mp a b,(xs:List (a.den×b.den))=>[.fS (xs.map fun p=>SN a (Ty.pv a p.1)) (xs.map fun p=>SN b (Ty.pv b p.2))]
 | .st n,v=>n.pv v
def sj:(ls:List Ty)->wB ls->List PV
 |[],_=>[]
 |t::l,v=>t.pv v.1++sj l v.2
theorem jE.FO:∀(n:jE) (v:n.den),n.pv v=sj n.leaves (n.toL v)
 | .ae,v=>by cases v;simp only[jE.pv,lu,ym];rfl
 | .aa,v=>rfl
 | .av,v=>rfl
 | .ak,v=>rfl
 | .jT,v=>rfl
 | .Config,v=>rfl
 | .Src,v=>rfl
 | .dg,v=>rfl
 | .DV,v=>rfl
 | .gf,v=>rfl
 | .Seen,v=>rfl
 | .km,v=>rfl
 | .nI,v=>rfl
def Ty.leaf:Ty->Bool
 | .st _=>false
 |_=>true
theorem jE.CK:∀(n:jE),n.leaves.all Ty.leaf=true
 | .ae=>rfl
 | .aa=>rfl
 | .av=>rfl
 | .ak=>rfl
 | .jT=>rfl
 | .Config=>rfl
 | .Src=>rfl
 | .dg=>rfl
 | .DV=>rfl
 | .gf=>rfl
 | .Seen=>rfl
 | .km=>rfl
 | .nI=>rfl
theorem jE.We:∀(n:jE) (v:wB n.leaves),n.toL (n.Ta v)=v
 | .ae,v=>rfl
 | .aa,v=>rfl
 | .av,v=>rfl
 | .ak,v=>rfl
 | .jT,v=>rfl
 | .Config,v=>rfl
 | .Src,v=>rfl
 | .dg,v=>rfl
 | .DV,v=>rfl
 | .gf,v=>rfl
 | .Seen,v=>rfl
 | .km,v=>rfl
 | .nI,v=>rfl
def Ty.NO:Ty->Bool
 | .sl _=>false
 | .mp _ _=>false
 |_=>true
@[reducible] def U:TU where
 Ty:=Ty
 MV:=Ty.MV
 den:=Ty.den
 pv:=Ty.pv
 size:=fun t=>match t with| .st n=>n.leaves.length|_=>1
 agg:=Ty.isAgg
 plain:=fun t=>match t with| .st n=>n.leaves.all Ty.NO|t=>t.NO
def zz:(t:Ty)->t.den->KV U
 | .i k,n=> .int k n
 | .bool,b=> .bool b
 | .str,s=> .str s
 | .sl t,(xs:List t.den)=> .sl t xs
 | .mp a b,(xs:List (a.den×b.den))=> .fS a b xs
 | .st _,_=> .any
def CJ:(ls:List Ty)->wB ls->List (KV U)
 |[],_=>[]
 |t::l,v=>zz t v.1::CJ l v.2
def VG:(t:Ty)->t.den->List (KV U)
 | .st n,v=>CJ n.leaves (n.toL v)
 | .i k,v=>[zz (.i k) v]
 | .bool,v=>[zz .bool v]
 | .str,v=>[zz .str v]
 | .sl t,v=>[zz (.sl t) v]
 | .mp a b,v=>[zz (.mp a b) v]
def tj(lk:Lk U):(t:Ty)->KV U->Option t.den
 | .i k,x=>Sg k x
 | .bool,x=>B7 x
 | .str,x=>Se x
 | .sl t,x=>La (U:=U) lk t x
 | .mp a b,x=>Sf (U:=U) a b x
 | .st _,_=>none
def ud(lk:Lk U):(ls:List Ty)->List (KV U)->Option (wB ls)
 |[],cs=>match cs with|[]=>some ()|_=>none
 |t::l,cs=>match cs with
  |c::cs=>(match tj lk t c with
   |some v=>(match ud lk l cs with|some vs=>some (v,vs)|none=>none)
   |none=>none)
  |[]=>none
def EZ{α:Type}(f:KV U->Option α):List (KV U)->Option α
 |[x]=>f x
 |_=>none
def XT:(t:Ty)->Lk U->List (KV U)->Option t.den
 | .st n,lk,cs=>(match ud lk n.leaves cs with|some v=>some (n.Ta v)|none=>none)
 | .i k,lk,cs=>EZ (tj lk (.i k)) cs
 | .bool,lk,cs=>EZ (tj lk .bool) cs
 | .str,lk,cs=>EZ (tj lk .str) cs
 | .sl t,lk,cs=>EZ (tj lk (.sl t)) cs
 | .mp a b,lk,cs=>EZ (tj lk (.mp a b)) cs
theorem RY:∀(t:Ty) (v:t.den),t.leaf=true->[(zz t v).pv]=t.pv v
 | .i k,v,_=>rfl
 | .bool,v,_=>rfl
 | .str,v,_=>rfl
 | .sl t,v,_=>rfl
 | .mp a b,v,_=>rfl
 | .st _,_,h=>by cases h
theorem Ga:∀(ls:List Ty) (v:wB ls),ls.all Ty.leaf=true->(CJ ls v).map KV.pv=sj ls v
 |[],_,_=>rfl
 |t::l,v,h=>by
  rw[List.all_cons,Qm]at h;rw[CJ,sj,QD,Ga l v.2 h.2,<-RY t v.1 h.1];rfl
theorem o5{lk:Lk U}:∀{t:Ty} {x:KV U} {v:t.den},tj lk t x=some v->fC lk [x] (t.pv v)
 | .i k,x,v,h=> .cons (UE h) .nil
 | .bool,x,v,h=> .cons (UG h) .nil
 | .str,x,v,h=> .cons (UB h) .nil
 | .sl t,x,v,h=> .cons (UD (U:=U) h) .nil
 | .mp a b,x,v,h=> .cons (UC (U:=U) h) .nil
 | .st _,_,_,h=>by cases h
theorem fC.bN{lk:Lk U}{x:KV U}{ys:List PV}{xs:List (KV U)}{zs:List PV}(h:fC lk [x] ys)(k:fC lk xs zs):fC lk (x::xs) (ys++zs):=by
 cases h with
 |cons h1 h2=>cases h2 with|nil=>exact .cons h1 k
theorem B6{lk:Lk U}:∀{ls:List Ty} {cs:List (KV U)} {v:wB ls},ud lk ls cs=some v->fC lk cs (sj ls v)
 |[],[],_,_=> .nil
 |[],_::_,_,h=>by cases h
 |_::_,[],_,h=>by cases h
 |t::l,c::cs,v,h=>by
  rw[ud]at h;split at h
  ·rename_i v1 h1;split at h
   ·rename_i vs h2;injection h with h
    subst h;exact(o5 h1).bN (B6 h2)
   ·cases h
  ·cases h
theorem yH{α:Type}{f:KV U->Option α}{cs:List (KV U)}{v:α}(h:EZ f cs=some v):∃x,cs=[x]/\f x=some v:=by
 unfold EZ at h;split at h
 ·exact⟨_,rfl,h⟩
 ·cases h
theorem O6:∀(ls:List Ty) (v:wB ls),ls.all Ty.leaf=true->(sj ls v).length=ls.length
 |[],_,_=>rfl
 |t::l,v,h=>by
  rw[List.all_cons,Qm]at h
  have:(t.pv v.1).length=1:=by
   cases t with
   |st n=>cases h.1
   |_=>rfl
  rw[sj,QB,O6 l v.2 h.2,this,QE,Nat.add_comm]
theorem ly:∀(t:Ty) (v:t.den),t.leaf=true->∀y∈t.pv v,y.eU=true/\(t.NO=true->y.plain=true)
 | .i k,v,_,y,h=>by simp only[Ty.pv,List.mem_singleton]at h;subst h;exact⟨rfl,fun _=>rfl⟩
 | .bool,v,_,y,h=>by simp only[Ty.pv,List.mem_singleton]at h;subst h;exact⟨rfl,fun _=>rfl⟩
 | .str,v,_,y,h=>by simp only[Ty.pv,List.mem_singleton]at h;subst h;exact⟨rfl,fun _=>rfl⟩
 | .sl t,v,_,y,h=>by simp only[Ty.pv,List.mem_singleton]at h;subst h;exact⟨rfl,fun h=>by cases h⟩
 | .mp a b,v,_,y,h=>by simp only[Ty.pv,List.mem_singleton]at h;subst h;exact⟨rfl,fun h=>by cases h⟩
 | .st _,_,h,_,_=>by cases h
theorem xy:∀(ls:List Ty) (v:wB ls),ls.all Ty.leaf=true->∀y∈sj ls v,y.eU=true/\(ls.all Ty.NO=true->y.plain=true)
 |[],_,_,y,h=>by cases h
 |t::l,v,h,y,hy=>by
  rw[List.all_cons,Qm]at h;rw[sj,Qz]at hy;rcases hy with hy|hy
  ·obtain⟨h1,h2⟩:=ly t v.1 h.1 y hy;exact⟨h1,fun hp=>by rw[List.all_cons,Qm]at hp;exact h2 hp.1⟩
  ·obtain⟨h1,h2⟩:=xy l v.2 h.2 y hy;exact⟨h1,fun hp=>by rw[List.all_cons,Qm]at hp;exact h2 hp.2⟩
def Hz:jE->Option (IntKind×IntKind)
 | .nI=>some (.i64,.i64)
 |_=>none
theorem CL:∀(n:jE) (k l:IntKind),Hz n=some (k,l)->∀v,∃a b,VG (.st n) v=[.int k a,.int l b]
 | .nI,_,_,h=>by injection h with h;injection h with h1 h2;subst h1 h2;exact fun v=>⟨_,_,rfl⟩
 | .ae,_,_,h=>by cases h
 | .aa,_,_,h=>by cases h
 | .av,_,_,h=>by cases h
 | .ak,_,_,h=>by cases h
 | .jT,_,_,h=>by cases h
 | .Config,_,_,h=>by cases h
 | .Src,_,_,h=>by cases h
 | .dg,_,_,h=>by cases h
 | .DV,_,_,h=>by cases h
 | .gf,_,_,h=>by cases h
 | .Seen,_,_,h=>by cases h
 | .km,_,_,h=>by cases h
def Wd:List (Nat×Ty):=[(3,(Ty.i .i64)),(4,Ty.bool),(9,Ty.str),(27,(Ty.st .ae)),(29,(Ty.st .aa)),(32,(Ty.st .ak)),(48,(Ty.st .av)),(88,(Ty.st .jT)),(161,(Ty.st .gf))]
def OX(n:Nat):List (Nat×Ty)->Option Ty
 |[]=>none
 |(k,t)::l=>(match Nat.beq k n with|true=>some t|false=>OX n l)
@[reducible] def K:TK U where
 bI:=VG
 dec:=XT
 JQ:=fun n=>OX n Wd
 mB:=fun t v=>by
  cases t with
  |st n=>exact(Ga _ _ n.CK).trans (n.FO v).symm
  |_=>rfl
 jr:=fun t lk cs v h=>by
  cases t with
  |st n=>
   change (match ud lk n.leaves cs with|some v=>some (n.Ta v)|none=>none)=some v at h
   split at h
   ·rename_i u hu;injection h with h
    subst h;have:=B6 hu
    change fC lk cs (n.pv (n.Ta u))
    rw[n.FO,n.We];exact this
   ·cases h
  |i k=>obtain⟨x,rfl,hx⟩:=yH h;exact o5 hx
  |bool=>obtain⟨x,rfl,hx⟩:=yH h;exact o5 hx
  |str=>obtain⟨x,rfl,hx⟩:=yH h;exact o5 hx
  |sl t=>obtain⟨x,rfl,hx⟩:=yH h;exact o5 hx
  |mp a b=>obtain⟨x,rfl,hx⟩:=yH h;exact o5 hx
 len:=fun t v=>by
  cases t with
  |st n=>exact(congrArg List.length (n.FO v)).trans (O6 _ _ n.CK)
  |_=>rfl
 eU:=fun t v y hy=>by
  cases t with
  |st n=>exact(xy _ (n.toL v) n.CK y (Eq.mp (congrArg (y∈·) (n.FO v)) hy)).1
  |i k=>exact(ly (.i k) v rfl y hy).1
  |bool=>exact(ly .bool v rfl y hy).1
  |str=>exact(ly .str v rfl y hy).1
  |sl t=>exact(ly (.sl t) v rfl y hy).1
  |mp a b=>exact(ly (.mp a b) v rfl y hy).1
 one:=fun t h=>by
  cases t with
  |st n=>cases h
  |_=>rfl
 plain:=fun t h v y hy=>by
  cases t with
  |st n=>exact(xy _ (n.toL v) n.CK y (Eq.mp (congrArg (y∈·) (n.FO v)) hy)).2 h
  |i k=>exact(ly (.i k) v rfl y hy).2 rfl
  |bool=>exact(ly .bool v rfl y hy).2 rfl
  |str=>exact(ly .str v rfl y hy).2 rfl
  |sl t=>cases h
  |mp a b=>cases h
 Hz:=fun t=>match t with| .st n=>Hz n|_=>none
 CL:=fun t k l h=>by
  cases t with
  |st n=>exact⟨rfl,CL n k l h⟩
  |_=>cases h
end Go.TQ
end
noncomputable section
namespace Go.TQ
open Go.RowKit
theorem qj{P:Program}(w:World)(dT sT ty elem:TypeId)(g o dLen dCap:Nat)(a:Addr)(sLen sCap:Nat)(cur:Array Value)(t:TypeId)(cs:List Value)(size n:Nat)
  (hu:P.underlying dT=some (.slice elem)) (hs:(P.info? elem).map (·.size)=some size)
  (hg:w.heap[g]?=some (.cells cur t (0,0))) (hn:n=Nat.min sLen dLen) (hcl:cs.length=n*size)
  (hsrc:∀(j:Nat) (v:Value),cs[j]?=some v->w.cell? (a.add j)=some v) (hfit:o+cs.length<=cur.size) (h1:∀v∈cs,v.oneCell'=true):
  (Builtin.copy_ #[dT,sT] ty #[.slice (some ⟨g,o,none⟩) dLen dCap,.slice (some a) sLen sCap]).run P w=
   .ok (goInt n) (w.setRow g (cur.toList.take o++cs++cur.toList.drop (o+cs.length)).toArray):=by
 have hl:=run_loadCells_list (P:=P) w a cs hsrc;have hst:=run_storeCells_at P g o t cs 0 cur w hg (by simpa using hfit) h1
 rw[hcl]at hl
 cases hq:P.info? elem with
 |none=>simp[hq]at hs
 |some i=>
  have hi:i.size=size:=by simpa[hq]using hs
  simp[Builtin.copy_,run_underlying hu,Builtin.lenOf,Builtin.firstCells,sizeOf,typeInfo,hq,hi,<-hn,hl,hst]
theorem Ml{w:World}{a:Addr}{v:Value}(h:w.cell? a=some v):∃t n,w.shape? a.block=some (t,n+1):=by
 unfold World.cell? at h;unfold World.shape?;split at h
 ·rename_i c t fr hc;split at h
  ·cases h
  ·have hlt:=(Array.getElem?_eq_some_iff.1 h).1;exact⟨t,c.size - 1,by simp only[Qf,Prod.mk.injEq,true_and];omega⟩
 ·cases h
theorem Ek{P:Program}(w:World)(tS tR e:TypeId)(ht:P.underlying tS=some (.slice e))(size:Nat)(hz:∀w,(Go.sizeOf e).run P w= .ok size w)
  (a b:Addr) (la ca lb cb:Nat) (hne:a.block≠b.block) {v:Value} (ha:w.cell? a=some v) {cur:Array Value} {t:TypeId} (hb:w.heap[b.block]?=some (.cells cur t (0,0))) (h0:cur.size≠0):
  (Extern.SlicesOverlaps.overlaps #[tS,tS] #[tR] #[.slice (some a) la ca,.slice (some b) lb cb]).run P w= .ok (.bool false) w:=by
 obtain⟨tA,kA,hsa⟩:=Ml ha;have hsb:w.shape? b.block=some (t,cur.size):=by simp[World.shape?,hb]
 have hfb:w.frozen? b=false:=by simp[World.frozen?,hb]
 have hfe:w.frozen? {block:=b.block,off:=cur.size}=false:=by simp[World.frozen?,hb]
 have hnb:(a.block !=b.block)=true:=by simpa using hne
 have hnb':(a.block==b.block)=false:=by simpa using hne
 obtain⟨kB,hkB⟩:∃kB,cur.size=kB+1:=⟨cur.size - 1,by omega⟩
 rw[hkB]at hsb hfe
 change Sem.run P (α:=Value) (do
  let some t:=(#[tS,tS]:Array TypeId)[0]?|stuck "slices.overlaps: no parameter types"
  let .slice elem <-underlying t|stuck "slices.overlaps: slice type expected"
  let size <-sizeOf elem
  match(some a:Option Addr),(some b:Option Addr)with
  |some a,some b=>
   if la=0\/lb=0\/size=0 then pure (Value.bool false)
   else if a.block !=b.block&&(<-frozen a)&&(<-frozen b)then unsupported .addressObserved
   else do
    if a.block !=b.block then do
     noView a;noView b
     if<-mayBeOne a b then return Value.bool ((<-choose (.extern "sameAddr.stringBytes" 2))==1)
    pure (Value.bool (a.block==b.block&&a.off<b.off+lb*size&&b.off<a.off+la*size))
  |_,_=>pure (Value.bool false)) w=_
 by_cases h0:la=0\/lb=0\/size=0
 ·simp[run_underlying ht,hz,h0]
 ·cases hfa:w.frozen? a<;>cases hfk:w.frozen? {block:=a.block,off:=kA+1}<;>
   simp[run_underlying ht,hz,h0,hnb,hnb',frozen,noView,viewAt,mayBeOne,stringish,shape,Sem.run,hsa,hsb,hfa,hfk,hfb,hfe]
theorem Ri(a:Addr):a.add 0=a:=by
 cases a with
 |mk b o s=>unfold Addr.add;split<;>simp_all
theorem Ae(a:Addr)(n:Nat):(a.add n).block=a.block:=by unfold Addr.add;split<;>rfl
def mr{α:Type}(l:List α)(o:Nat)(c:List α):List α:=l.take o++c++l.drop (o+c.length)
theorem zl{α:Type}{l:List α}{o:Nat}{c:List α}(h:o+c.length<=l.length):(mr l o c).length=l.length:=by simp[mr];omega
theorem NG{α:Type}{l us ys:List α}{a:Nat}(h:a+us.length+ys.length<=l.length):mr (mr l a us) (a+us.length) ys=l.take a++us++ys++l.drop (a+us.length+ys.length):=by
 have h1:(l.take a++us).length=a+us.length:=by simp;omega
 have h2:(mr l a us).take (a+us.length)=l.take a++us:=by
  rw[mr,List.take_append_of_le_length (by omega),List.take_of_length_le (by omega)]
 have h3:(mr l a us).drop (a+us.length+ys.length)=l.drop (a+us.length+ys.length):=by
  rw[mr,<-List.drop_drop,<-h1,List.drop_left,List.drop_drop,h1]
 rw[mr,h2,h3]
theorem Ma{α:Type}{l us ys:List α}{a:Nat}(h:a+us.length+ys.length<=l.length):mr (mr l (a+us.length) ys) a us=l.take a++us++ys++l.drop (a+us.length+ys.length):=by
 have h1:(l.take (a+us.length)).length=a+us.length:=by simp;omega
 have h2:(mr l (a+us.length) ys).take a=l.take a:=by
  rw[mr,QL,List.take_append_of_le_length (by omega),List.take_take,Nat.min_eq_left (by omega)]
 have h3:(mr l (a+us.length) ys).drop (a+us.length)=ys++l.drop (a+us.length+ys.length):=by
  conv=>lhs;rw[mr,QL]
  exact List.drop_left' h1
 rw[mr,h2,h3,QL,QL,QL]
theorem pV(w:World)(g:Nat)(cs:Array Value){b:Nat}(h:b≠g):(w.setRow g cs).heap[b]?=w.heap[b]?:=by
 simp only[World.setRow,Array.getElem?_modify];rw[Qs (fun e=>h e.symm)]
theorem Ic(w:World)(g:Nat)(cs:Array Value):Fr (some g) w (w.setRow g cs):=⟨rfl,rfl,rfl,by simp[World.setRow],fun b _ hb=>pV w g cs (fun e=>hb (by rw[e])),QI _⟩
theorem Fr.WJ(w:World)(rb:Option Nat):Fr rb w w.drew:=⟨rfl,rfl,rfl,QI _,fun _ _ _=>rfl,Nat.le_succ _⟩
theorem Fr.trans'{rb:Option Nat}{a b c:World}(h:Fr rb a b)(k:Fr rb b c):Fr rb a c:=⟨k.os.trans h.os,k.tape.trans h.tape,k.output.trans h.output,QK h.size k.size,fun i hi hne=>(k.block i (QJ hi h.size) hne).trans (h.block i hi hne),QK h.drawn k.drawn⟩
theorem D2{w w':World}{v u:Value}{X:Nat->Prop}(hf:Fr (bC v) w w')(hu:∀b,bC u=some b->bC v=some b\/w.heap.size<=b):cW w w' (Mv v X) (Mv u X):=by
 have key:∀b,b<w.heap.size->¬Mv v X b->w'.heap[b]?=w.heap[b]?/\¬Mv u X b:=fun b hlt hM=>⟨hf.block b hlt fun h=>hM (.inl h),by
  rintro(h|h)
  ·rcases hu _ h with h|h
   ·exact hM (.inl h)
   ·omega
  ·exact hM (.inr h)⟩
 refine⟨fun a x hc hM=> ?_,fun b es ck hb hM=> ?_⟩
 ·have hlt:a.block<w.heap.size:=by
   by_cases h:a.block<w.heap.size
   ·exact h
   ·have:w.heap[a.block]?=none:=by rw[Array.getElem?_eq_none_iff];omega
    simp[World.cell?,this]at hc
  obtain⟨h1,h2⟩:=key _ hlt hM;exact⟨(World.cell?_of_block h1).trans hc,h2⟩
 ·obtain⟨h1,h2⟩:=key b (Array.getElem?_eq_some_iff.1 hb).1 hM;exact⟨h1.trans hb,h2⟩
theorem J8{w:World}{M:Nat->Prop}{es:List (List PV)}{xs:List Value}(h:aM w M cq es.flatten xs)(h1:∀u∈es,u.all PV.one=true):∀x∈xs,x.oneCell'=true:=by
 intro x hx;obtain⟨q,hq,rfl⟩:=List.mem_iff_getElem.1 hx;have hl:q<es.flatten.length:=by rw[<-h.1];exact hq
 obtain⟨el,hel,hmem⟩:=List.mem_flatten.1 (Q0 hl);exact((h.2 q _ _ (Qv hl) (Qv hq)).one (QH.1 (h1 el hel) _ hmem)).1
structure SI (P:Program) (f S E I B ov k bytes:Nat):Prop where
 Vr:0<k
 hS:P.underlying S=some (.slice E)
 hI:P.underlying I=some (.int .i64)
 Vs:∃(i:TypeInfo) (z:Value),P.info? E=some i/\i.zero=some z/\z.cells.size=k/\i.size=k/\i.bytes=bytes
 vO:∀(x:Array Value) (w:World),(Extern.SlicesOverlaps.overlaps #[S,S] #[B] x).run P w= .ok (.bool false) w->(callFunc ov x).run P w= .ok (.value (.bool false)) w
 w8:∀(g n c i:Nat),i<=n->n<=c->c<=9223372036854775807->∀(u:Option Addr) (vc:Nat) (w:World),
  Calls P f #[.slice (some ⟨g,0,none⟩) n c,.int .i64 i,.slice u 0 vc] w fun e w'=>e= .returned (.slice (some ⟨g,0,none⟩) n c)/\w'=w
 zr:∀(u:Option Addr) (vc:Nat) (w:World),Calls P f #[.slice none 0 0,.int .i64 0,.slice u 0 vc] w fun e w'=>e= .returned (.slice none 0 0)/\w'=w
 GP:∀(g n c:Nat),n<=c->c<=9223372036854775807->∀(ad:Addr) (m vc:Nat),0<m->∀(w w1:World) (v1:Value),
  (∀ty,(Builtin.append_ #[S,S] ty #[.slice (some ⟨g,0,none⟩) n c,.slice (some ad) m vc]).run P w= .ok v1 w1)->
  Calls P f #[.slice (some ⟨g,0,none⟩) n c,.int .i64 n,.slice (some ad) m vc] w fun e w'=>e= .returned v1/\w'=w1
 vf:∀(ad:Addr) (m vc:Nat),0<m->∀(w w1:World) (v1:Value),
  (∀ty,(Builtin.append_ #[S,S] ty #[.slice none 0 0,.slice (some ad) m vc]).run P w= .ok v1 w1)->
  Calls P f #[.slice none 0 0,.int .i64 0,.slice (some ad) m vc] w fun e w'=>e= .returned v1/\w'=w1
 shift:∀(g n c i:Nat),i<n->c<=9223372036854775807->∀(ad:Addr) (m vc:Nat),0<m->n+m<=c->∀(w w1 w2:World),
  (∀lb cb,(callFunc ov #[.slice (some ad) m vc,.slice (some ⟨g,(i+m)*k,none⟩) lb cb]).run P w= .ok (.value (.bool false)) w)->
  (∀ty dc sc,(Builtin.copy_ #[S,S] ty #[.slice (some ⟨g,(i+m)*k,none⟩) (n+m - (i+m)) dc,.slice (some ⟨g,i*k,none⟩) (n+m - i) sc]).run P w.drew= .ok (goInt (n - i:Nat)) w1)->
  (∀ty dc,(Builtin.copy_ #[S,S] ty #[.slice (some ⟨g,i*k,none⟩) (n+m - i) dc,.slice (some ad) m vc]).run P w1= .ok (goInt m) w2)->
  Calls P f #[.slice (some ⟨g,0,none⟩) n c,.int .i64 i,.slice (some ad) m vc] w fun e w'=>e= .returned (.slice (some ⟨g,0,none⟩) (n+m) c)/\w'=w2
 grow:∀(g n c i:Nat),i<n->n<=c->c<=9223372036854775807->∀(ad:Addr) (m vc:Nat),0<m->c<n+m->∀(N G:Nat),n+m<=G->G<=9223372036854775807->∀(w w1 w2 w3:World),
  (∀ty,(Builtin.append_ #[S,I] ty #[.slice (some ⟨g,0,none⟩) i c,.int .i64 ((n:Int)+(m:Int) - (i:Int))]).run P w= .ok (.slice (some ⟨N,0,none⟩) (n+m) G) w1)->
  (∀ty dc,(Builtin.copy_ #[S,S] ty #[.slice (some ⟨N,i*k,none⟩) (n+m - i) dc,.slice (some ad) m vc]).run P w1= .ok (goInt m) w2)->
  (∀ty dc sc,(Builtin.copy_ #[S,S] ty #[.slice (some ⟨N,(i+m)*k,none⟩) (n+m - (i+m)) dc,.slice (some ⟨g,i*k,none⟩) (n - i) sc]).run P w2.drew= .ok (goInt (n - i:Nat)) w3)->
  Calls P f #[.slice (some ⟨g,0,none⟩) n c,.int .i64 i,.slice (some ad) m vc] w fun e w'=>e= .returned (.slice (some ⟨N,0,none⟩) (n+m) G)/\w'=w3
theorem Ug{P:Program}{E k bytes:Nat}(h:(P.info? E).map (fun i=>(i.zero.map (·.cells.size),i.size,i.bytes))=some (some k,k,bytes)):∃(i:TypeInfo) (z:Value),P.info? E=some i/\i.zero=some z/\z.cells.size=k/\i.size=k/\i.bytes=bytes:=by
 rw[Qb]at h;obtain⟨i,h1,h2⟩:=h;injection h2 with h2 h3
 injection h3 with h3 h4
 rw[Qb]at h2;obtain⟨z,h5,h6⟩:=h2;exact⟨i,z,h1,h5,h6,h3,h4⟩
theorem Uf{P:Program}{f S E I B ov k bytes:Nat}(H:SI P f S E I B ov k bytes){es vs:List (List PV)}{i:Nat}(hi:i<=es.length)(h1e:∀u∈es,u.all PV.one=true)(hvs:∀u∈vs,u.length=k/\u.all PV.one=true)
  (hmax:es.length+vs.length<=maxLen) (hby:(es.length+vs.length)*bytes<=140737488355328):Fa P f E k es [.int .i64 i,.sl vs] (es.take i++vs++es.drop i):=by
 have hk0:=H.Vr;intro w X hX v args hvX ⟨xs,hown,hke,hr⟩ hargs;obtain⟨a1,args,rfl,ha1,hargs⟩:=hargs.cons_inv;obtain⟨a2,args,rfl,ha2,hargs⟩:=hargs.cons_inv;obtain rfl:=hargs.kv;obtain rfl:=ha1.dW;obtain⟨inf,z,hi1,hi2,hi3,hi4,hi5⟩:=H.Vs;have hsz:(P.info? E).map (·.size)=some k:=by rw[hi1];simp[hi4]
 have hmem:∀u∈es.take i++vs++es.drop i,u.length=k:=by
  intro u hu;rw[Qz,Qz]at hu;rcases hu with(hu|hu)|hu
  ·exact hke u (Q1 hu)
  ·exact(hvs u hu).1
  ·exact hke u (Q2 hu)
 have same:vs=[]->es.take i++vs++es.drop i=es:=fun h=>by rw[h];simp
 by_cases hm0:vs=[]
 ·rw[same hm0]
  have hz:∃u vc,a2= .slice u 0 vc:=by
   subst hm0;rcases ha2.xX with⟨h,_⟩|⟨ad,c,_,_,h,_⟩
   ·exact⟨_,_,h⟩
   ·exact⟨_,_,h⟩
  obtain⟨u,vc,rfl⟩:=hz
  have post:∀(e:Ending) (w':World),e= .returned v/\w'=w->∃u,e= .returned u/\qo w' (Mv u X) E k u es/\(∀b,bC u=some b->bC v=some b\/w.heap.size<=b)/\Fr (bC v) w w':=by
   rintro e w' ⟨rfl,rfl⟩;exact⟨v,rfl,⟨xs,hown,hke,hr⟩,fun b hb=> .inl hb,Fr.refl _ _⟩
  rcases hown.2 with⟨rfl,h0⟩|⟨g,cap,cur,rfl,_,hg,hnc,hcm,hcs,htk⟩
  ·obtain rfl:i=0:=by omega
   exact(H.zr u vc w).mono fun e w' h=>post e w' h
  ·exact(H.w8 g es.length cap i hi hnc (by simp only[maxLen]at hcm;omega) u vc w).mono fun e w' h=>post e w' h
 ·
  have hm:0<vs.length:=List.length_pos_iff.2 hm0;rcases ha2.xX with⟨_,h⟩|⟨ad,vc,k',us,rfl,hk',hru,hcu,_,_⟩
  ·exact absurd h hm0
  have hul:us.length=vs.length*k:=by rw[hru.1,lR vs k fun u hu=>(hvs u hu).1]
  have hone:=J8 hru fun u hu=>(hvs u hu).2
  have hpos:0<us.length:=by rw[hul];exact Nat.mul_pos hm hk0
  obtain⟨c0,hc0⟩:∃c0,us[0]?=some c0:=⟨_,Qv hpos⟩;obtain⟨had,hadM⟩:=hcu 0 c0 hc0;have had:w.cell? ad=some c0:=by rw[Ri]at had;exact had
  have hcell:∀(j:Nat) (u:Value),us[j]?=some u->w.cell? (ad.add j)=some u:=fun j u hj=>(hcu j u hj).1
  have hadlt:ad.block<w.heap.size:=by
   by_cases h:ad.block<w.heap.size
   ·exact h
   ·have:w.heap[ad.block]?=none:=by rw[Array.getElem?_eq_none_iff];omega
    simp[World.cell?,this]at had
  have fin:∀(v1:Value) (w1:World),w1.ownsRow 0 E k v1 (es.length+vs.length) (xs++us)->w.grownBy w1 v.ownBlock->(v1.ownBlock=v.ownBlock\/v1.ownBlock=some w.heap.size)->(∃a n c,v= .slice a n c)->i=es.length->w.drawn<=w1.drawn->
    ∀(e:Ending) (w':World),e= .returned v1/\w'=w1->∃u,e= .returned u/\qo w' (Mv u X) E k u (es.take i++vs++es.drop i)/\(∀b,bC u=some b->bC v=some b\/w.heap.size<=b)/\Fr (bC v) w w':=by
   rintro v1 w1 ho hgr hat ⟨a0,n0,c0,hv0⟩ hie hdr e w' ⟨rfl,rfl⟩;have hb0:v.ownBlock=bC v:=jm hv0
   have hb1:v1.ownBlock=bC v1:=by
    rcases ho.2 with⟨h,_⟩|⟨_,_,_,h,_⟩
    ·exact jm h
    ·exact jm h
   have hfr:Fr (bC v) w w':=⟨hgr.os,hgr.tape,hgr.output,hgr.size,fun b hb hne=>hgr.block b hb (fun h=>hne (by rw[<-hb0,<-h])),hdr⟩
   have hub:∀b,bC v1=some b->bC v=some b\/w.heap.size<=b:=fun b hb=>by
    rw[<-hb1]at hb;rcases hat with h|h
    ·exact .inl (by rw[<-hb0,<-h];exact hb)
    ·rw[h]at hb;injection hb with hb;exact .inr (by omega)
   have he:es.take i++vs++es.drop i=es++vs:=by subst hie;simp
   rw[he]at hmem ⊢;refine⟨v1,rfl,⟨xs++us,by rw[QB];exact ho,hmem,?_⟩,hub,hfr⟩
   rw[List.flatten_append];exact(hr.append hru).mono (D2 hfr hub) (cq.le _)
  rcases hown.2 with⟨rfl,h0⟩|⟨g,cap,cur,rfl,hb0,hg,hnc,hcm,hcs,htk⟩
  ·obtain rfl:i=0:=by omega
   obtain⟨v1,w1,r1,r2,r3,_,r5⟩:=run_append_own_at (P:=P) w 0 S 0 E inf z k bytes H.hS hi1 hi2 hi4 hi5 hi3 hk0 (.slice none 0 0) es.length xs hown ad vs.length vc us hul hcell hone hmax hby (QS _);exact(H.vf ad vs.length vc hm w w1 v1 fun ty=>r1).mono fun e w' h=>fin v1 w1 r2 r3 r5 ⟨_,_,_,rfl⟩ h0.symm (wy (P:=P) w 0 S 0 E inf z k bytes H.hS hi1 hi2 hi4 hi5 hk0 (.slice none 0 0) es.length xs hown ad vs.length vc us hul hcell hone hmax hby r1) e w' h
  ·have hcm':cap<=9223372036854775807:=by simp only[maxLen]at hcm;omega
   by_cases hie:i=es.length
   ·obtain⟨v1,w1,r1,r2,r3,_,r5⟩:=run_append_own_at (P:=P) w 0 S 0 E inf z k bytes H.hS hi1 hi2 hi4 hi5 hi3 hk0 _ es.length xs hown ad vs.length vc us hul hcell hone hmax hby (QS _);have:=H.GP g es.length cap hnc hcm' ad vs.length vc hm w w1 v1 fun ty=>r1
    rw[<-hie]at this ⊢;exact this.mono fun e w' h=>fin v1 w1 r2 r3 r5 ⟨_,_,_,rfl⟩ hie (wy (P:=P) w 0 S 0 E inf z k bytes H.hS hi1 hi2 hi4 hi5 hk0 _ es.length xs hown ad vs.length vc us hul hcell hone hmax hby r1) e w' h
   ·have hin:i<es.length:=by omega
    have hM:∀b,Mv (.slice (some ⟨g,0,none⟩) es.length cap) X b->True:=fun _ _=>trivial
    have hne:ad.block≠g:=fun h=>hadM (.inl (by rw[h];rfl))
    have hglt:g<w.heap.size:=(Array.getElem?_eq_some_iff.1 hg).1;have hxl:xs.length=es.length*k:=hown.1;have hcl:es.length*k<=cur.toList.length:=by simpa[hcs]using Nat.mul_le_mul_right k hnc
    have hx1:=J8 hr h1e;obtain⟨ys,hys⟩:∃ys,ys=xs.drop (i*k):=⟨_,rfl⟩;have hyl:ys.length=(es.length - i)*k:=by rw[hys,List.length_drop,hxl,Nat.sub_mul]
    have hy1:∀y∈ys,y.oneCell'=true:=fun y hy=>hx1 y (Q2 (hys▸hy))
    have hcx:∀(j:Nat) (u:Value),xs[j]?=some u->w.cell? ⟨g,j,none⟩=some u:=fun j u hj=>by
     refine lE hg ?_;rw[<-htk,List.getElem?_take]at hj;split at hj
     ·exact hj
     ·cases hj
    have hcy:∀(j:Nat) (u:Value),ys[j]?=some u->w.cell? ((⟨g,i*k,none⟩:Addr).add j)=some u:=fun j u hj=>by
     rw[add_mid];rw[hys,List.getElem?_drop]at hj;exact hcx _ u hj
    have hik:i*k+us.length=(i+vs.length)*k:=by rw[hul,Nat.add_mul]
    have htot:i*k+us.length+ys.length=(es.length+vs.length)*k:=by
     rw[hul,hyl,<-Nat.add_mul,<-Nat.add_mul];congr 1;omega
    have hres:aM w (Mv (.slice (some ⟨g,0,none⟩) es.length cap) X) cq (es.take i++vs++es.drop i).flatten (xs.take (i*k)++us++ys):=by
     rw[List.flatten_append,List.flatten_append,oB k i es hke,sx k i es hke,hys];exact((hr.take _).append hru).append (hr.drop _)
    have hlen:(es.take i++vs++es.drop i).length=es.length+vs.length:=by simp;omega
    have htl:(xs.take (i*k)++us++ys).length=(es.length+vs.length)*k:=by
     rw[QB,QB,List.length_take,hxl,Nat.min_eq_left (Nat.mul_le_mul_right k hi)];exact htot
    by_cases hroom:es.length+vs.length<=cap
    ·
     have hfit:(es.length+vs.length)*k<=cur.toList.length:=by simpa[hcs]using Nat.mul_le_mul_right k hroom
     have r1:=qj (P:=P) w.drew S S 0 E g ((i+vs.length)*k) (es.length+vs.length - (i+vs.length)) 0 ⟨g,i*k,none⟩ (es.length+vs.length - i) 0 cur E ys k (es.length - i) H.hS hsz hg
      (by simp only[Nat.min_def];split<;>omega) hyl hcy (by simp only[Array.length_toList]at hfit;omega) hy1
     obtain⟨cur1,hcur1⟩:∃cur1:Array Value,cur1=(mr cur.toList ((i+vs.length)*k) ys).toArray:=⟨_,rfl⟩;have hg1:(w.drew.setRow g cur1).heap[g]?=some (.cells cur1 E (0,0)):=setRow_heap w.drew g cur _ E _ hg
     have hl1:cur1.size=cap*k:=by
      rw[hcur1,List.size_toArray,zl (by rw[<-hik];omega),Array.length_toList,hcs]
     have r2:=qj (P:=P) (w.drew.setRow g cur1) S S 0 E g (i*k) (es.length+vs.length - i) 0 ad vs.length vc cur1 E us k vs.length H.hS hsz hg1
      (by simp only[Nat.min_def];split<;>omega) hul (fun j u hj=>by rw[World.cell?_of_block (w:=w) (pV w.drew g cur1 (by rw[Ae];exact hne))];exact hcell j u hj)
      (by rw[hl1,<-hcs,<-Array.length_toList];omega) hone
     obtain⟨cur2,hcur2⟩:∃cur2:Array Value,cur2=(mr cur1.toList (i*k) us).toArray:=⟨_,rfl⟩;have hg2:((w.drew.setRow g cur1).setRow g cur2).heap[g]?=some (.cells cur2 E (0,0)):=setRow_heap _ g cur1 _ E _ hg1
     have hc2:cur2.toList=xs.take (i*k)++us++ys++cur.toList.drop ((es.length+vs.length)*k):=by
      rw[hcur2,hcur1,<-hik,Ma (by omega),htot,<-htk,List.take_take,Nat.min_eq_left (Nat.mul_le_mul_right k hi)]
     have hC:cur.toList.length=cap*k:=(Array.length_toList (xs:=cur)).trans hcs;have hL1:cur1.toList.length=cap*k:=(Array.length_toList (xs:=cur1)).trans hl1;have hfr:Fr (some g) w ((w.drew.setRow g cur1).setRow g cur2):=(Fr.WJ w _).trans' ((Ic _ g _).trans' (Ic _ g _))
     have hcap0:cur.size≠0:=by
      have:0<cap:=by omega
      rw[hcs];exact Nat.ne_of_gt (Nat.mul_pos this hk0)
     refine(H.shift g es.length cap i hin hcm' ad vs.length vc hm hroom w (w.drew.setRow g cur1) ((w.drew.setRow g cur1).setRow g cur2) (fun lb cb=> ?_) (fun ty dc sc=> ?_) (fun ty dc=> ?_)).mono ?_
     ·exact H.vO _ w (Ek w S B E H.hS k (fun w'=>by simp[Go.sizeOf,typeInfo,hi1,hi4]) ad ⟨g,(i+vs.length)*k,none⟩ vs.length vc lb cb hne had hg hcap0)
     ·rw[hcur1];exact r1
     ·rw[hcur2];exact r2
     ·rintro e w' ⟨rfl,rfl⟩;refine⟨_,rfl,⟨xs.take (i*k)++us++ys,⟨?_,.inr ⟨g,cap,cur2,by rw[hlen],hb0,hg2,by rw[hlen];exact hroom,hcm,?_,?_⟩⟩,hmem,hres.mono (@D2 w _ (.slice (some ⟨g,0,none⟩) es.length cap) (.slice (some ⟨g,0,none⟩) (es.length+vs.length) cap) X hfr fun b hb=> .inl hb) (cq.le _)⟩,fun b hb=> .inl hb,hfr⟩
      ·rw[htl,hlen]
      ·rw[hcur2,List.size_toArray,zl (by rw[hL1];omega),hL1]
      ·rw[hlen,hc2,<-htl,List.take_left' rfl]
    ·
     have hik2:i+(es.length+vs.length - i)=es.length+vs.length:=by omega
     have hold:(Builtin.firstCells inf.size i (.slice (some ⟨g,0,none⟩) i cap)).run P w.drew= .ok (xs.take (i*k)).toArray w.drew:=by
      rw[hi4];refine run_firstCells_some w.drew k i ⟨g,0,none⟩ i cap (xs.take (i*k)) (by rw[List.length_take,hxl];exact Nat.min_eq_left (Nat.mul_le_mul_right k hi)) fun j u hj=> ?_
      rw[add_mid,Nat.zero_add];rw[List.getElem?_take]at hj;split at hj
      ·exact hcx j u hj
      ·cases hj
     have hmax':es.length+vs.length<=9223372036854775807:=by simp only[maxLen]at hmax;omega
     have r0:=fun ty=>Lib.run_append_grow_zeros (P:=P) w S I ty E inf z .i64 .i64 H.hS H.hI hi1 hi2 (some ⟨g,0,none⟩) i cap (xs.take (i*k)) hold (es.length+vs.length - i) (by omega) (by omega) (by omega) (by omega)
      (by rw[hi5];have:=Nat.mul_le_mul_right bytes (show es.length+vs.length - i<=es.length+vs.length by omega);omega) (by rw[hi5,hik2];exact growslice_fits (by omega) hby)
     rw[hik2]at r0;obtain⟨G,hG⟩:∃G,G=grownCap w (es.length+vs.length) cap E:=⟨_,rfl⟩;have hGn:es.length+vs.length<=G:=by rw[hG];exact grownCap_ge w _ _ _
     have hGm:G<=maxLen:=by rw[hG];exact grownCap_le_maxLen w _ _ _ hmax
     have hG63:G<=9223372036854775807:=by simp only[maxLen]at hGm;omega
     rw[<-hG]at r0;obtain⟨row,hrow⟩:∃row:Array Value,row=(xs.take (i*k)).toArray++Builtin.zeroCells z.cells (es.length+vs.length - i)++Builtin.zeroCells z.cells (G - (es.length+vs.length)):=⟨_,rfl⟩;rw[<-hrow]at r0;have hrt:(xs.take (i*k)).length=i*k:=by rw[List.length_take,hxl];exact Nat.min_eq_left (Nat.mul_le_mul_right k hi)
     have hrl:row.size=G*k:=by
      rw[hrow,Array.size_append,Array.size_append,List.size_toArray,hrt,size_zeroCells,size_zeroCells,hi3,<-Nat.add_mul,<-Nat.add_mul];congr 1;omega
     have hrtake:row.toList.take (i*k)=xs.take (i*k):=by
      rw[hrow,Array.toList_append,Array.toList_append,QL];exact List.take_left' hrt
     have hN:(w.drew.alloc (.cells row E)).heap[w.heap.size]?=some (.cells row E (0,0)):=by
      show(w.heap.push (.cells row E))[w.heap.size]?=_;simp
     have hkeep:∀b,b<w.heap.size->(w.drew.alloc (.cells row E)).heap[b]?=w.heap[b]?:=fun b hb=>Below.heap_alloc w.drew _ b hb
     have hfit:(es.length+vs.length)*k<=row.size:=by rw[hrl];exact Nat.mul_le_mul_right k hGn
     have r1:=qj (P:=P) (w.drew.alloc (.cells row E)) S S 0 E w.heap.size (i*k) (es.length+vs.length - i) 0 ad vs.length vc row E us k vs.length H.hS hsz hN
      (by simp only[Nat.min_def];split<;>omega) hul (fun j u hj=>by rw[World.cell?_of_block (w:=w) (hkeep _ (by rw[Ae];exact hadlt))];exact hcell j u hj) (by omega) hone
     have hR:row.toList.length=G*k:=(Array.length_toList (xs:=row)).trans hrl;obtain⟨cur1,hcur1⟩:∃cur1:Array Value,cur1=(mr row.toList (i*k) us).toArray:=⟨_,rfl⟩;have hl1:cur1.size=G*k:=by rw[hcur1,List.size_toArray,zl (by rw[hR];omega),hR]
     have hL1:cur1.toList.length=G*k:=(Array.length_toList (xs:=cur1)).trans hl1;have hg1:((w.drew.alloc (.cells row E)).setRow w.heap.size cur1).drew.heap[w.heap.size]?=some (.cells cur1 E (0,0)):=setRow_heap _ _ row _ E _ hN
     have r2:=qj (P:=P) ((w.drew.alloc (.cells row E)).setRow w.heap.size cur1).drew S S 0 E w.heap.size ((i+vs.length)*k) (es.length+vs.length - (i+vs.length)) 0 ⟨g,i*k,none⟩ (es.length - i) 0 cur1 E ys k (es.length - i) H.hS hsz hg1
      (by simp only[Nat.min_def];split<;>omega) hyl (fun j u hj=>by
       rw[World.cell?_of_block (w:=w) (w':=((w.drew.alloc (.cells row E)).setRow w.heap.size cur1).drew) (((pV _ w.heap.size cur1 (by rw[Ae];exact Nat.ne_of_lt hglt)).trans (hkeep _ (by rw[Ae];exact hglt))))]
       exact hcy j u hj) (by rw[hl1,<-hrl,<-hik];omega) hy1
     obtain⟨cur2,hcur2⟩:∃cur2:Array Value,cur2=(mr cur1.toList ((i+vs.length)*k) ys).toArray:=⟨_,rfl⟩;obtain⟨w3,hw3⟩:∃w3,w3=((w.drew.alloc (.cells row E)).setRow w.heap.size cur1).drew.setRow w.heap.size cur2:=⟨_,rfl⟩;have hg2:w3.heap[w.heap.size]?=some (.cells cur2 E (0,0)):=by rw[hw3];exact setRow_heap _ _ cur1 _ E _ hg1
     have hc2:cur2.toList=xs.take (i*k)++us++ys++row.toList.drop ((es.length+vs.length)*k):=by
      rw[hcur2,hcur1,<-hik,NG (by rw[hR];omega),htot,hrtake]
     have hfr:Fr (some g) w w3:=by
      rw[hw3];refine⟨rfl,rfl,rfl,by simp[World.setRow],fun b hb _=> ?_,by show w.drawn<=w.drawn+1+1;omega⟩
      rw[pV _ _ _ (Nat.ne_of_lt hb)];exact(pV _ w.heap.size cur1 (Nat.ne_of_lt hb)).trans (hkeep b hb)
     refine(H.grow g es.length cap i hin hnc hcm' ad vs.length vc hm (by omega) w.heap.size G hGn hG63 w (w.drew.alloc (.cells row E)) ((w.drew.alloc (.cells row E)).setRow w.heap.size cur1) w3 (fun ty=> ?_) (fun ty dc=> ?_) (fun ty dc sc=> ?_)).mono ?_
     ·have:=r0 ty;rw[show((es.length+vs.length - i:Nat):Int)=(es.length:Int)+(vs.length:Int) - (i:Int)by omega]at this
      exact this
     ·rw[hcur1];exact r1
     ·rw[hw3,hcur2];exact r2
     ·rintro e w' ⟨rfl,rfl⟩
      have hub:∀b,bC (.slice (some ⟨w.heap.size,0,none⟩) (es.length+vs.length) G)=some b->bC (.slice (some ⟨g,0,none⟩) es.length cap)=some b\/w.heap.size<=b:=fun b hb=>by
       injection hb with hb
       exact .inr (Nat.le_of_eq hb)
      refine⟨_,rfl,⟨xs.take (i*k)++us++ys,⟨?_,.inr ⟨w.heap.size,G,cur2,by rw[hlen],QS _,hg2,by rw[hlen];exact hGn,hGm,?_,?_⟩⟩,hmem,hres.mono (@D2 w _ (.slice (some ⟨g,0,none⟩) es.length cap) (.slice (some ⟨w.heap.size,0,none⟩) (es.length+vs.length) G) X hfr hub) (cq.le _)⟩,hub,hfr⟩
      ·rw[htl,hlen]
      ·rw[hcur2,List.size_toArray,zl (by rw[hL1,<-hik];omega),hL1]
      ·rw[hlen,hc2,<-htl,List.take_left' rfl]
end Go.TQ
end
noncomputable section
namespace Go.Proofs.YtkgenianmdfmdaaGreat
open Go.RowKit Go.TQ Go.Lib
namespace NX
theorem zE:∀w:World,(Go.sizeOf 48).run Tryz.prog w= .ok 15 w:=fun _=>by kernel_rfl
set_option maxHeartbeats 4000000 in
set_option maxRecDepth 100000 in
theorem w8(g n c i:Nat)(hi:i<=n)(hc:n<=c)(hc63:c<=9223372036854775807)(u:Option Addr)(vc:Nat)(w:World):
  Calls Tryz.prog 95 #[.slice (some ⟨g,0,none⟩) n c,.int .i64 i,.slice u 0 vc] w fun e w'=>e= .returned (.slice (some ⟨g,0,none⟩) n c)/\w'=w:=by
 have zE:=zE;have uS:=run_underlying Tryz.underlying30
 go_enter Tryz.func95,Tryz.ntmps95
 go_wp2
 all_goals go_ret
 all_goals exact⟨rfl,rfl⟩
set_option maxHeartbeats 4000000 in
set_option maxRecDepth 100000 in
theorem zr(u:Option Addr)(vc:Nat)(w:World):
  Calls Tryz.prog 95 #[.slice none 0 0,.int .i64 0,.slice u 0 vc] w fun e w'=>e= .returned (.slice none 0 0)/\w'=w:=by
 have zE:=zE;have uS:=run_underlying Tryz.underlying30
 go_enter Tryz.func95,Tryz.ntmps95
 go_wp2
 all_goals go_ret
 all_goals exact⟨rfl,rfl⟩
set_option maxHeartbeats 4000000 in
set_option maxRecDepth 100000 in
theorem GP(g n c:Nat)(hc:n<=c)(hc63:c<=9223372036854775807)(ad:Addr)(m vc:Nat)(hm:0<m)(w w1:World)(v1:Value)
  (hr:∀ty,(Builtin.append_ #[30,30] ty #[.slice (some ⟨g,0,none⟩) n c,.slice (some ad) m vc]).run Tryz.prog w= .ok v1 w1):
  Calls Tryz.prog 95 #[.slice (some ⟨g,0,none⟩) n c,.int .i64 n,.slice (some ad) m vc] w fun e w'=>e= .returned v1/\w'=w1:=by
 have zE:=zE;have uS:=run_underlying Tryz.underlying30;have hz1:¬((m:Int)=0):=by omega
 go_enter Tryz.func95,Tryz.ntmps95
 go_wp2_with (at_builtin;refine Lib.wpList_append_run _ rfl _ _ _ _ rfl _ _ rfl rfl _ _ (hr _) ?_)
 all_goals go_ret
 all_goals exact⟨rfl,rfl⟩
set_option maxHeartbeats 4000000 in
set_option maxRecDepth 100000 in
theorem vf(ad:Addr)(m vc:Nat)(hm:0<m)(w w1:World)(v1:Value)
  (hr:∀ty,(Builtin.append_ #[30,30] ty #[.slice none 0 0,.slice (some ad) m vc]).run Tryz.prog w= .ok v1 w1):
  Calls Tryz.prog 95 #[.slice none 0 0,.int .i64 0,.slice (some ad) m vc] w fun e w'=>e= .returned v1/\w'=w1:=by
 have zE:=zE;have uS:=run_underlying Tryz.underlying30;have hz1:¬((m:Int)=0):=by omega
 go_enter Tryz.func95,Tryz.ntmps95
 go_wp2_with (at_builtin;refine Lib.wpList_append_run _ rfl _ _ _ _ rfl _ _ rfl rfl _ _ (hr _) ?_)
 all_goals go_ret
 all_goals exact⟨rfl,rfl⟩
set_option maxHeartbeats 4000000 in
set_option maxRecDepth 100000 in
theorem shift(g n c i:Nat)(hi:i<n)(hc63:c<=9223372036854775807)(ad:Addr)(m vc:Nat)(hm:0<m)(hroom:n+m<=c)(w w1 w2:World)
  (hov:∀lb cb,(callFunc 113 #[.slice (some ad) m vc,.slice (some ⟨g,(i+m)*15,none⟩) lb cb]).run Tryz.prog w= .ok (.value (.bool false)) w)
  (h1:∀ty dc sc,(Builtin.copy_ #[30,30] ty #[.slice (some ⟨g,(i+m)*15,none⟩) (n+m - (i+m)) dc,.slice (some ⟨g,i*15,none⟩) (n+m - i) sc]).run Tryz.prog w.drew= .ok (goInt (n - i:Nat)) w1)
  (h2:∀ty dc,(Builtin.copy_ #[30,30] ty #[.slice (some ⟨g,i*15,none⟩) (n+m - i) dc,.slice (some ad) m vc]).run Tryz.prog w1= .ok (goInt m) w2):
  Calls Tryz.prog 95 #[.slice (some ⟨g,0,none⟩) n c,.int .i64 i,.slice (some ad) m vc] w fun e w'=>e= .returned (.slice (some ⟨g,0,none⟩) (n+m) c)/\w'=w2:=by
 have zE:=zE;have uS:=run_underlying Tryz.underlying30;have hz1:¬((m:Int)=0):=by omega
 have hz2:¬((i:Int)=(n:Int)):=by omega
 have mixed:Tryz.prog.follows .mixedOrders=true:=by kernel_rfl
 have hw1:IntKind.i64.wrap ((i:Int)+(m:Int))=(i:Int)+(m:Int):=by rw[IntKind.wrap_i64];omega
 have hb1:(0:Int)<=(i:Int)+(m:Int):=by omega
 have hin:i<=n:=by omega
 have htn:((i:Int)+(m:Int)).toNat=i+m:=by omega
 have hb2:¬(c=i+m):=by omega
 have hb3:(i:Int)<=(n:Int)+(m:Int):=by omega
 have hb4:¬(c=i):=by omega
 go_enter Tryz.func95,Tryz.ntmps95
 go_wp2_with (simp only[hov])
 go_region_law_o (refine step_copy_runI rfl _ _ 30 30 rfl _ _ (by simp[Act.eval,Act.put]) (by simp[Act.eval,Act.put]) (h1 _ _ _) ?_)
 go_wp2_with (at_builtin;refine wpList_copy_runI _ rfl _ _ 30 30 rfl _ _ rfl rfl (h2 _ _) ?_)
 go_ret
 exact⟨rfl,rfl⟩
set_option maxHeartbeats 4000000 in
set_option maxRecDepth 100000 in
theorem grow(g n c i:Nat)(hi:i<n)(hc:n<=c)(hc63:c<=9223372036854775807)(ad:Addr)(m vc:Nat)(hm:0<m)(hroom:c<n+m)(N G:Nat)(hGn:n+m<=G)(hG63:G<=9223372036854775807)(w w1 w2 w3:World)
  (hz:∀ty,(Builtin.append_ #[30,3] ty #[.slice (some ⟨g,0,none⟩) i c,.int .i64 ((n:Int)+(m:Int) - (i:Int))]).run Tryz.prog w= .ok (.slice (some ⟨N,0,none⟩) (n+m) G) w1)
  (h1:∀ty dc,(Builtin.copy_ #[30,30] ty #[.slice (some ⟨N,i*15,none⟩) (n+m - i) dc,.slice (some ad) m vc]).run Tryz.prog w1= .ok (goInt m) w2)
  (h2:∀ty dc sc,(Builtin.copy_ #[30,30] ty #[.slice (some ⟨N,(i+m)*15,none⟩) (n+m - (i+m)) dc,.slice (some ⟨g,i*15,none⟩) (n - i) sc]).run Tryz.prog w2.drew= .ok (goInt (n - i:Nat)) w3):
  Calls Tryz.prog 95 #[.slice (some ⟨g,0,none⟩) n c,.int .i64 i,.slice (some ad) m vc] w fun e w'=>e= .returned (.slice (some ⟨N,0,none⟩) (n+m) G)/\w'=w3:=by
 have zE:=zE;have uS:=run_underlying Tryz.underlying30;have hz1:¬((m:Int)=0):=by omega
 have hz2:¬((i:Int)=(n:Int)):=by omega
 have hz3:(c:Int)<(n:Int)+(m:Int):=by omega
 have mixed:Tryz.prog.follows .mixedOrders=true:=by kernel_rfl
 have hw1:IntKind.i64.wrap ((i:Int)+(m:Int))=(i:Int)+(m:Int):=by rw[IntKind.wrap_i64];omega
 have hb1:(0:Int)<=(i:Int)+(m:Int):=by omega
 have hin:i<=n:=by omega
 have htn:((i:Int)+(m:Int)).toNat=i+m:=by omega
 have hb3:(i:Int)<=(n:Int):=by omega
 have hGi:¬(G=i):=by omega
 have hGim:¬(G=i+m):=by omega
 have hci:¬(c=i):=by omega
 go_enter Tryz.func95,Tryz.ntmps95
 go_wp2_with (first
  |(at_builtin;refine Lib.wpList_append_run _ rfl _ _ _ _ rfl _ _ rfl rfl _ _ (hz _) ?_)
  |(at_builtin;refine wpList_copy_runI _ rfl _ _ 30 30 rfl _ _ rfl rfl (h1 _ _) ?_))
 go_region_law_o (refine step_copy_runI rfl _ _ 30 30 rfl (.slice (some ⟨N,(i+m)*15,none⟩) (n+m - (i+m)) (G - (i+m))) (.slice (some ⟨g,i*15,none⟩) (n - i) (c - i)) (by simp[Act.eval,Act.put]) (by simp[Act.eval,Act.put]) (h2 3 (G - (i+m)) (c - i)) ?_)
 go_wp2
 go_ret
 exact⟨rfl,rfl⟩
theorem ways:SI Tryz.prog 95 30 48 3 4 113 15 176 where
 Vr:=by decide
 hS:=Tryz.underlying30
 hI:=Tryz.underlying3
 Vs:=Ug (by kernel_rfl)
 vO:=fun x w h=>by
  rw[run_callFunc_extern Tryz.func113 (by kernel_rfl) (by kernel_rfl) (by kernel_rfl) (e:=Extern.SlicesOverlaps.overlaps #[30,30] #[4]) (by kernel_rfl),h]
  rfl
 w8:=w8
 zr:=zr
 GP:=GP
 vf:=vf
 shift:=shift
 grow:=grow
theorem enters:Go.TQ.Enters Tryz.prog 95:=⟨Tryz.f95,Tryz.func95,by kernel_rfl,by kernel_rfl⟩
end NX
end Go.Proofs.YtkgenianmdfmdaaGreat
end
noncomputable section
namespace Go.TQ
def KG{α:Type}(bytes:Nat)(s:List α)(i:Int)(v:List α):Option (List α):=bif decide (0<=i)&&decide (i<=((s.length:Nat):Int))&&bW bytes (s.length+v.length)then some (s.take i.toNat++v++s.drop i.toNat)else none
theorem oA{P:Program}{f S E I B ov k bytes:Nat}(H:SI P f S E I B ov k bytes)(hent:Enters P f){T:Ty}(hk:∀x:T.den,(T.pv x).length=k):
  cD.Sound P (U:=U) (.cw f E k T [.ty (Ty.i .i64),.ty (Ty.sl T)] fun s a=>KG bytes s a.1 a.2.1):=by
 refine⟨hent,fun xs a ys h=> ?_⟩
 suffices key:∀(i:Int) (v:List T.den) (ys:List T.den),KG bytes xs i v=some ys->Fa P f E k (xs.map T.pv) [.int .i64 i,.sl (v.map T.pv)] (ys.map T.pv)from key a.1 a.2.1 ys h
 clear h;intro i v ys h;unfold KG at h
 cases hc:(decide (0<=i)&&decide (i<=((xs.length:Nat):Int))&&bW bytes (xs.length+v.length))with
 |false=>rw[hc]at h;cases h
 |true=>
  rw[hc]at h;injection h with h
  subst h;simp only[Qm,Qi]at hc;obtain⟨⟨h0,h1⟩,h2⟩:=hc;obtain⟨h3,h4⟩:=u6 h2;have hone:∀x:T.den,(T.pv x).all PV.one=true:=fun x=>QH.2 fun y hy=>KO (K.eU T x y hy)
  have:=Uf H (es:=xs.map T.pv) (vs:=v.map T.pv) (i:=i.toNat) (by rw[QC];omega)
   (fun u hu=>by obtain⟨x,_,rfl⟩:=QP.1 hu;exact hone x) (fun u hu=>by obtain⟨x,_,rfl⟩:=QP.1 hu;exact⟨hk x,hone x⟩)
   (by rw[QC,QC];exact h4) (by rw[QC,QC];exact h3)
  rw[<-List.map_take,<-List.map_drop,<-List.map_append,<-List.map_append,show((i.toNat:Nat):Int)=i by omega]at this
  exact this
end Go.TQ
end
noncomputable section
namespace Go.TQ
open Go.Proofs Go.Sort Go.RowKit Go.Lib
def rX:PV->Bool
 | .int _ _=>true
 | .str _=>true
 | .bool _=>true
 |_=>false
def lv:PV->Value
 | .int k n=> .int k n
 | .str s=> .string s
 | .bool b=> .bool b
 |_=>undef
theorem Bz{w:World}{M:Nat->Prop}{G:Gh}{x:PV}(h:rX x=true):aL w M G x (lv x):=by
 cases x<;>first|exact .int _ _|exact .str _|exact .bool _|exact absurd h (by simp[rX])
theorem Pb{w:World}{M:Nat->Prop}{G:Gh}{x:PV}{v:Value}(h:rX x=true)(hr:aL w M G x v):v=lv x:=by
 cases x<;>first|(cases hr;rfl)|exact absurd h (by simp[rX])
theorem Ir{x:PV}(h:rX x=true):(lv x).oneCell'=true:=by
 cases x<;>first|rfl|exact absurd h (by simp[rX])
theorem FQ{w:World}{M:Nat->Prop}{G:Gh}:∀{xs:List PV} {vs:List Value},xs.all rX=true->aM w M G xs vs->vs=xs.map lv
 |[],vs,_,hr=>hr.kv
 |x::xs,vs,h,hr=>by
  obtain⟨v,vs',rfl,r1,r2⟩:=hr.cons_inv;rw[List.all_cons,Qm]at h;rw[QD,<-Pb h.1 r1,<-FQ h.2 r2]
theorem FP{w:World}{M:Nat->Prop}{G:Gh}:∀{xs:List PV},xs.all rX=true->aM w M G xs (xs.map lv)
 |[],_=> .nil
 |x::xs,h=>by
  rw[List.all_cons,Qm]at h;exact .cons (Bz h.1) (FP h.2)
theorem Uv{w w':World}(h:Fr none w w'):∃q os,w'=grow (w.drewN q) os:=by
 refine⟨w'.drawn - w.drawn,w'.heap.extract w.heap.size w'.heap.size,?_⟩;have hs:=h.size
 have hh:w'.heap=w.heap++w'.heap.extract w.heap.size w'.heap.size:=by
  apply Array.ext_getElem?;intro k;rw[Array.getElem?_append];split
  ·rename_i hk;exact h.block k hk (by simp)
  ·rename_i hk;rw[Array.getElem?_extract];split
   ·rw[show w.heap.size+(k - w.heap.size)=k by omega]
   ·exact Array.getElem?_eq_none (by omega)
 have h1:=h.os;have h2:=h.tape;have h3:=h.output;have h4:=h.drawn
 cases w' with|mk hp tp dr os out=>
 cases w with|mk hp' tp' dr' os' out'=>
 simp only at h1 h2 h3 h4 hh;subst h1 h2 h3;unfold grow World.drewN;simp only;rw[<-hh,show dr'+(dr - dr')=dr by omega]
theorem Kg{w:World}{b n:Nat}{F:Array Value}{os:Array Obj}{cur:Array Value}{e:TypeId}{fr:Nat×Nat}(hb:w.heap[b]?=some (.cells cur e fr)):
  (grow (putRow id (Sort.ahead w n) b 0 F) os).heap[b]?=some (.cells (putCells id 0 F cur) e fr):=by
 have hlt:b<w.heap.size:=(Array.getElem?_eq_some_iff.1 hb).1;unfold grow putRow mapBlock Sort.ahead;simp only;rw[Array.getElem?_append_left (by simp;exact hlt),Array.getElem?_modify,Qr rfl,hb]
 rfl
theorem O7{w:World}{b n:Nat}{F:Array Value}{os:Array Obj}:Fr (some b) w (grow (putRow id (Sort.ahead w n) b 0 F) os):=by
 refine⟨rfl,rfl,rfl,?_,fun q hq hne=> ?_,Nat.le_add_right _ _⟩
 ·unfold grow putRow mapBlock Sort.ahead;simp only[Array.size_append,Array.size_modify];omega
 ·have hqb:¬b=q:=fun e=>hne (by rw[e])
  unfold grow putRow mapBlock Sort.ahead;simp only;rw[Array.getElem?_append_left (by simp;exact hq),Array.getElem?_modify,Qs hqb]
theorem Io{F cur:Array Value}(h:F.size<=cur.size):(putCells id 0 F cur).toList=F.toList++cur.toList.drop F.size:=by
 apply List.ext_getElem?;intro i;rw[Array.getElem?_toList];unfold putCells;rw[Array.getElem?_mapIdx,List.getElem?_append];simp only[Array.length_toList,QS,true_and,Nat.zero_add,Nat.sub_zero,id]
 by_cases hi:i<F.size
 ·rw[Qr hi,Array.getElem?_toList,Array.getElem?_eq_getElem (show i<cur.size by omega),Array.getElem?_eq_getElem hi,Qe,Qr hi,getElem!_pos F i hi]
 ·rw[Qs hi,List.getElem?_drop,Array.getElem?_toList,show F.size+(i - F.size)=i by omega]
  cases cur[i]? with
  |none=>rfl
  |some y=>rw[Qe,Qs hi]
def LD(P:Program)(f k:Nat):Prop:=∀(α:Type) [Inhabited α] (bI:α->List Value) (_:∀x,(bI x).length=k) (_:∀x,∀v∈bI x,v.oneCell'=true) (cf:α->α->Int) (_:Go.Sort.SWO (ltOf cf)) (g:Nat) (cb:Array Value) (bC off cap:Nat) (d:Array α) (w:World)
  (_:∀args w,(callFunc g args).run P w= .ok (.enter g args) w) (_:CmpLays P g cb bI k cf bC off d.size w) (_:HoldsK bI k w bC off d) (_:bC<w.heap.size) (_:d.size<4611686018427387904) (_:∀x y,(ltOf cf) x y=false->(ltOf cf) y x=false->x=y),
  Calls P f #[.slice (some ⟨bC,off,none⟩) d.size cap,.func (.func g) #[] cb] w fun e w'=>
   e= .returned (.tuple #[])/\∃n os,w'=sortWorldK bI k w bC off n (d.toList.mergeSort fun x y=> !(ltOf cf) y x).toArray os
def GY(P:Program)(f:Nat):Prop:=∀(α:Type) [Inhabited α] (bI:α->Value) (_:OneCell bI) (cf:α->α->Int) (_:Go.Sort.SWO (ltOf cf)) (g:Nat) (cb:Array Value) (bC off cap:Nat) (d:Array α) (w:World)
  (_:∀args w,(callFunc g args).run P w= .ok (.enter g args) w) (_:CmpLays1 P g cb bI cf bC off d.size w) (_:Holds bI w bC off d) (_:bC<w.heap.size) (_:d.size<4611686018427387904) (_:∀x y,(ltOf cf) x y=false->(ltOf cf) y x=false->x=y),
  Calls P f #[.slice (some ⟨bC,off,none⟩) d.size cap,.func (.func g) #[] cb] w fun e w'=>
   e= .returned (.tuple #[])/\∃n os,w'=sortWorld bI w bC off n (d.toList.mergeSort fun x y=> !(ltOf cf) y x).toArray os
def Ck(P:Program)(f:Nat):Prop:=∀(p:Option Addr) (cap:Nat) (fv:Value) (w:World),Calls P f #[.slice p 0 cap,fv] w fun e w'=>e= .returned (.tuple #[])/\w'=w
section
variable {P : Program} {α : Type} [Inhabited α] {pv : α -> List PV} {k : Nat}
def kZ(pv:α->List PV)(x:α):List Value:=(pv x).map lv
def LC(P:Program)(f g e k:Nat)(pv:α->List PV)(le:α->α->Bool):Prop:=
 ∀(w:World) (b cap:Nat) (xs:List α) (cur:Array Value),w.heap[b]?=some (.cells cur e (0,0))->xs.length<4611686018427387904->xs.length<=cap->cap<=maxLen->cur.size=cap*k->cur.toList.take (xs.length*k)=xs.flatMap (kZ pv)->
  Calls P f #[.slice (some ⟨b,0,none⟩) xs.length cap,.func (.func g) #[] #[]] w fun en w'=>en= .returned (.tuple #[])/\
   ∃cur':Array Value,w'.heap[b]?=some (.cells cur' e (0,0))/\cur'.size=cur.size/\cur'.toList.take (xs.length*k)=(xs.mergeSort le).flatMap (kZ pv)/\Fr (some b) w w'
theorem IK(hk:∀x,(pv x).length=k):∀xs:List α,(xs.flatMap (kZ pv)).length=xs.length*k
 |[]=>by simp
 |x::xs=>by rw[List.flatMap_cons,QB,IK hk xs,kZ,QC,hk,QE,Nat.add_mul,Nat.one_mul,Nat.add_comm]
theorem Mr{f g e:Nat}{le:α->α->Bool}(h0:Ck P f)(hs:LC P f g e k pv le)(hk0:0<k)(hk:∀x,(pv x).length=k)(hp:∀x,(pv x).all rX=true)(xs:List α)(hsx:xs.length<4611686018427387904):
  H5 P f e k (xs.map pv) [.bg g []] (.c6 []) ((xs.mergeSort le).map pv):=by
 intro w X hX v vs hvX ⟨us,hown,hke,hr⟩ hargs;obtain⟨a1,args,rfl,ha1,hargs⟩:=hargs.cons_inv;obtain rfl:=hargs.kv;obtain⟨cs,rfl,hcs⟩:=ha1.rC;obtain rfl:=hcs.kv
 have hflat:∀l:List α,(l.map pv).flatten.map lv=l.flatMap (kZ pv):=fun l=>by
  induction l with
  |nil=>rfl
  |cons x l ih=>rw[QD,List.flatten_cons,List.map_append,ih,List.flatMap_cons];rfl
 have hplain:∀l:List α,(l.map pv).flatten.all rX=true:=fun l=>by
  induction l with
  |nil=>rfl
  |cons x l ih=>rw[QD,List.flatten_cons,List.all_append,ih,hp x];rfl
 have hus:us=xs.flatMap (kZ pv):=by rw[FQ (hplain xs) hr,hflat]
 have hms:(xs.mergeSort le).length=xs.length:=List.length_mergeSort xs
 have hkm:∀l:List α,∀u∈l.map pv,u.length=k:=fun l u hu=>by
  obtain⟨x,_,rfl⟩:=QP.1 hu;exact hk x
 have hlen:(xs.map pv).length=xs.length:=QC ..;have hlen2:((xs.mergeSort le).map pv).length=xs.length:=by rw[QC,hms]
 rw[hlen]at hown
 have hrep:∀w':World,aM w' (Mv v X) cq ((xs.mergeSort le).map pv).flatten ((xs.mergeSort le).flatMap (kZ pv)):=fun w'=>by
  rw[<-hflat];exact FP (hplain _)
 by_cases hx:xs=[]
 ·
  subst hx
  have hv:∃p cap,v= .slice p 0 cap:=by
   rcases hown.2 with⟨h1,_⟩|⟨b,cap,cur,h1,_⟩
   ·exact⟨none,0,h1⟩
   ·exact⟨_,cap,h1⟩
  obtain⟨p,cap,hv⟩:=hv;have:=h0 p cap (.func (.func g) #[] [].toArray) w;rw[<-hv]at this;refine this.mono fun en w' ⟨h1,h2⟩=> ?_
  subst h2;refine⟨_,h1,.c6 _ [] rfl (fun i x v h=>by simp at h),⟨us,?_,hkm _,?_⟩,Fr.refl _ _⟩
  ·rw[hlen2];exact hown
  ·rw[hus];have:=hrep w';rw[show([]:List α).mergeSort le=[]from by simp]at this ⊢
   exact this
 ·rcases hown.2 with⟨_,h2⟩|⟨b,cap,cur,rfl,hbase,hb,hn,hcap,hsz,htake⟩
  ·exact absurd (List.eq_nil_of_length_eq_zero h2) hx
  ·refine(hs w b cap xs cur hb hsx hn hcap hsz (by rw[htake,hus])).mono fun en w' ⟨h1,cur',h2,h3,h4,h5⟩=> ?_
   refine⟨_,h1,.c6 _ [] rfl (fun i x v h=>by simp at h),⟨(xs.mergeSort le).flatMap (kZ pv),⟨?_,.inr ⟨b,cap,cur',by rw[hlen2],hbase,h2,by rw[hlen2];exact hn,hcap,by rw[h3];exact hsz,?_⟩⟩,hkm _,hrep w'⟩,h5⟩
   ·rw[IK hk,hms,hlen2]
   ·rw[hlen2];exact h4
theorem DL{bI:α->List Value}(hk:∀x,(bI x).length=k)(hk0:0<k):∀(l:List α) (t:Nat),t<l.length*k->(l.flatMap bI)[t]?=(bI l[t / k]!)[t % k]?
 |[],t,h=>by simp at h
 |x::l,t,h=>by
  rw[List.flatMap_cons]
  by_cases ht:t<k
  ·rw[List.getElem?_append_left (by rw[hk];exact ht),Nat.div_eq_of_lt ht,Nat.mod_eq_of_lt ht]
   rfl
  ·rw[List.getElem?_append_right (by rw[hk];omega),hk]
   have hl:t - k<l.length*k:=by rw[QE,Nat.add_mul,Nat.one_mul]at h;omega
   rw[DL hk hk0 l (t - k) hl,Nat.mod_eq_sub_mod (by omega:t>=k),show t / k=(t - k) / k+1 from Nat.div_eq_sub_div hk0 (by omega)]
   simp
theorem N4{bI:α->List Value}(hk:∀x,(bI x).length=k)(hk0:0<k)(l:List α):(flatK bI k l.toArray).toList=l.flatMap bI:=by
 have hlen:(l.flatMap bI).length=l.length*k:=by
  induction l with
  |nil=>simp
  |cons x l ih=>rw[List.flatMap_cons,QB,ih,hk,QE,Nat.add_mul,Nat.one_mul,Nat.add_comm]
 apply List.ext_getElem?;intro t
 by_cases ht:t<l.length*k
 ·rw[DL hk hk0 l t ht];have hm:t % k<(bI l[t / k]!).length:=by rw[hk];exact Nat.mod_lt _ hk0
  rw[Qv hm];unfold flatK;simp only[Array.toList_map,Array.toList_range,QT,List.size_toArray];rw[List.getElem?_range ht];simp only[Qe];congr 1;rw[show(l.toArray)[t / k]! =l[t / k]! by simp]
  exact getElem!_pos (bI l[t / k]!) (t % k) hm
 ·rw[List.getElem?_eq_none (by rw[Array.length_toList,size_flatK,List.size_toArray];omega),List.getElem?_eq_none (by omega)]
def SM(P:Program)(g:Nat)(val:α->Value)(cf:α->α->Int):Prop:=∀(x y:α) (w:World),Calls P g #[val x,val y] w fun e w'=>e= .returned (.int .i64 (cf x y))/\∃q os,w'=grow (w.drewN q) os
theorem Gp{w:World}{b e cap:Nat}{xs:List α}{cur:Array Value}{F:Array Value}(hb:w.heap[b]?=some (.cells cur e (0,0)))(hF:F.toList=cur.toList.take F.size):Holds id w b 0 F:=by
 intro j hj
 have hc:cur[j]?=some F[j]:=by
  have h1:F.toList[j]?=some F[j]:=by rw[Array.getElem?_toList];exact Array.getElem?_eq_getElem hj
  rw[hF,List.getElem?_take,Qr hj,Array.getElem?_toList]at h1;exact h1
 rw[getElem!_pos F j hj];refine⟨?_,?_⟩
 ·unfold World.cell?;simp only[Nat.zero_add,hb];simpa using hc
 ·unfold World.frozen?;simp only[hb];simp
theorem XJ{f g e:Nat}{cf:α->α->Int}(hS:LD P f k)(hk0:0<k)(hk:∀x,(pv x).length=k)(hp:∀x,(pv x).all rX=true)(hO:Go.Sort.SWO (ltOf cf))(hT:∀x y,(ltOf cf) x y=false->(ltOf cf) y x=false->x=y)
  (eg:∀args w,(callFunc g args).run P w= .ok (.enter g args) w) (hc:SM P g (fun x=> .agg (kZ pv x).toArray) cf):LC P f g e k pv fun x y=> !(ltOf cf) y x:=by
 intro w b cap xs cur hb hsx hn hcap hsz htake;have hlt:b<w.heap.size:=(Array.getElem?_eq_some_iff.1 hb).1;have hkE:∀x,(kZ pv x).length=k:=fun x=>by rw[kZ,QC,hk]
 have hflat:∀l:List α,(flatK (kZ pv) k l.toArray).toList=l.flatMap (kZ pv):=N4 hkE hk0;have hcs:CmpLays P g #[] (kZ pv) k cf b 0 xs.toArray.size w:=fun m os dk _ x y=>hc x y _
 have hH:HoldsK (kZ pv) k w b 0 xs.toArray:=Gp (xs:=xs) (cap:=cap) hb (by rw[hflat,size_flatK,List.size_toArray];exact htake.symm)
 have:=hS α (kZ pv) hkE (fun x v hv=>by obtain⟨y,hy,rfl⟩:=QP.1 hv;exact Ir (QH.1 (hp x) y hy)) cf hO g #[] b 0 cap xs.toArray w eg hcs hH hlt (by rw[List.size_toArray];exact hsx) hT
 refine this.mono fun en w' ⟨h1,n,os,h2⟩=>⟨h1,?_⟩
 have hms:(xs.mergeSort fun x y=> !(ltOf cf) y x).length=xs.length:=List.length_mergeSort xs
 have hFs:(flatK (kZ pv) k (xs.mergeSort fun x y=> !(ltOf cf) y x).toArray).size=xs.length*k:=by rw[size_flatK,List.size_toArray,hms]
 have hFc:(flatK (kZ pv) k (xs.mergeSort fun x y=> !(ltOf cf) y x).toArray).size<=cur.size:=by rw[hFs,hsz];exact Nat.mul_le_mul_right k hn
 subst h2;refine⟨_,Kg hb,by unfold putCells;rw[Array.size_mapIdx],?_,O7⟩
 rw[Io hFc,<-hFs,<-Array.length_toList,List.take_left,hflat]
theorem XK{f g e:Nat}{cf:α->α->Int}{p1:α->PV}(hS:GY P f)(hp:∀x,rX (p1 x)=true)(hO:Go.Sort.SWO (ltOf cf))(hT:∀x y,(ltOf cf) x y=false->(ltOf cf) y x=false->x=y)
  (eg:∀args w,(callFunc g args).run P w= .ok (.enter g args) w) (hc:SM P g (fun x=>lv (p1 x)) cf):LC P f g e 1 (fun x=>[p1 x]) fun x y=> !(ltOf cf) y x:=by
 intro w b cap xs cur hb hsx hn hcap hsz htake;have hlt:b<w.heap.size:=(Array.getElem?_eq_some_iff.1 hb).1
 have hflat:∀l:List α,(l.toArray.map fun x=>lv (p1 x)).toList=l.flatMap (kZ fun x=>[p1 x]):=fun l=>by
  induction l with
  |nil=>simp
  |cons x l ih=>
   rw[List.flatMap_cons,<-ih];simp[kZ]
 have hcs:CmpLays1 P g #[] (fun x=>lv (p1 x)) cf b 0 xs.toArray.size w:=fun m os dk _ x y=>hc x y _
 have hF:=Gp (xs:=xs) (cap:=cap) (F:=xs.toArray.map fun x=>lv (p1 x)) hb (by rw[hflat,Array.size_map,List.size_toArray,<-Nat.mul_one xs.length];exact htake.symm)
 have hH:Holds (fun x=>lv (p1 x)) w b 0 xs.toArray:=by
  intro j hj;have h1:=hF j (by rw[Array.size_map];exact hj)
  rw[getElem!_pos _ j (by rw[Array.size_map];exact hj),Array.getElem_map]at h1
  rw[getElem!_pos _ j hj];exact h1
 have:=hS α (fun x=>lv (p1 x)) (fun x=>Ir (hp x)) cf hO g #[] b 0 cap xs.toArray w eg hcs hH hlt (by rw[List.size_toArray];exact hsx) hT
 refine this.mono fun en w' ⟨h1,n,os,h2⟩=>⟨h1,?_⟩
 have hms:(xs.mergeSort fun x y=> !(ltOf cf) y x).length=xs.length:=List.length_mergeSort xs
 have hput:∀(W:World) (d:Array α),putRow (fun x=>lv (p1 x)) W b 0 d=putRow id W b 0 (d.map fun x=>lv (p1 x)):=fun W d=>by
  unfold putRow;congr 1
  funext c
  unfold putCells;apply Array.ext_getElem?;intro i;simp only[Array.getElem?_mapIdx,Array.size_map,QS,true_and,Nat.zero_add,Nat.sub_zero,id]
  cases c[i]? with
  |none=>rfl
  |some y=>
   simp only[Qe]
   by_cases hi:i<d.size
   ·rw[Qr hi,Qr hi,getElem!_pos d i hi,getElem!_pos _ i (by rw[Array.size_map];exact hi),Array.getElem_map]
   ·rw[Qs hi,Qs hi]
 unfold sortWorld at h2;rw[hput]at h2;have hFs:((xs.mergeSort fun x y=> !(ltOf cf) y x).toArray.map fun x=>lv (p1 x)).size=xs.length*1:=by rw[Array.size_map,List.size_toArray,hms,Nat.mul_one]
 have hFc:((xs.mergeSort fun x y=> !(ltOf cf) y x).toArray.map fun x=>lv (p1 x)).size<=cur.size:=by rw[hFs,hsz];exact Nat.mul_le_mul_right 1 hn
 subst h2;refine⟨_,Kg hb,by unfold putCells;rw[Array.size_mapIdx],?_,O7⟩
 rw[Io hFc,<-hFs,<-Array.length_toList,List.take_left,hflat]
end
theorem M0{P:Program}{g:Nat}{α:Type}{va:α->PV}{val:α->Value}{cf:α->α->Int}(hval:∀(x:α) (w:World) (M:Nat->Prop),aL w M cq (va x) (val x))(h:∀x y,Ro P g false [] [va x,va y] (.int .i64 (cf x y)) []):SM P g val cf:=by
 intro x y w;have:=h x y w (fun _=>False) (fun b hb=>hb.elim) 0 0 [] [val x,val y] (fun e=>by cases e) (.cons (hval x w _) (.cons (hval y w _) .nil))
 refine this.mono fun en w' ⟨v,rvs,h1,h2,_,h4⟩=> ?_
 rw[h2.dW]at h1;exact⟨h1,Uv h4⟩
end Go.TQ
end
noncomputable section
namespace Go.TQ
open Go.Proofs Go.Sort
def Cc{α:Type}(c:α->α->Option Int)(x y:α):Int:=(c x y).getD 0
structure Tv {α:Type} (c:α->α->Option Int):Prop where
 some:∀x y,c x y=some (Cc c x y)
 ord:Go.Sort.SWO (ltOf (Cc c))
 Xm:∀x y,ltOf (Cc c) x y=false->ltOf (Cc c) y x=false->x=y
open Classical in
 def vz{α:Type}(c:α->α->Option Int)(s:List α):Option (Unit×List α):=if Tv c/\s.length<4611686018427387904 then some ((),s.mergeSort fun x y=> !(ltOf (Cc c)) y x)else none
section
variable {P : Program} {f g e k : Nat} {T : Ty} {F : T.den × T.den × Unit -> Option Int} (hent : Enters P f) (h0 : Ck P f) (hgs : cD.Sound P (U := U) (.fn g [.ty T, .ty T] (.one (Ty.i .i64)) F)) (hi : Inhabited T.den) (hp : ∀ x : T.den, (T.pv x).all rX = true)
 include hent h0 hgs hi hp
theorem Wf(hS:LD P f k)(hk0:0<k)(hk:∀x:T.den,(T.pv x).length=k)(hv:∀x:T.den,cv (U:=U) T x= .agg (T.pv x)):
  cD.Sound P (U:=U) (.rw f e k T [.bg g []] (.many []) fun s a=>vz (fun x y=>F (x,y,())) s):=by
 refine⟨hent,fun xs a r ys h=> ?_⟩
 have h:vz (fun x y=>F (x,y,())) xs=some (r,ys):=h
 unfold vz at h;split at h
 ·rename_i hc;injection h with h
  injection h with _ h2
  subst h2;refine Mr h0 (XJ hS hk0 hk hp hc.1.ord hc.1.Xm (fun args w=>mq hgs.1 args) ?_) hk0 hk hp xs hc.2
  refine M0 (va:=fun x=> .agg (T.pv x)) (fun x w M=> .agg _ _ (by rw[kZ,QC]) fun i y v h1 h2=> ?_) fun x y=> ?_
  ·rw[kZ,QT,h1]at h2;injection h2 with h2
   rw[<-h2];exact Bz (QH.1 (hp x) y (List.mem_of_getElem? h1))
  ·have:=hgs.2 (x,y,()) _ (hc.1.some x y);rw[show eW (U:=U) [.ty T,.ty T] (x,y,())=[.agg (T.pv x),.agg (T.pv y)]by rw[<-hv x,<-hv y];rfl]at this
   exact this
 ·cases h
theorem SV(hS:GY P f)(hv:∀x:T.den,T.pv x=[cv (U:=U) T x]):
  cD.Sound P (U:=U) (.rw f e 1 T [.bg g []] (.many []) fun s a=>vz (fun x y=>F (x,y,())) s):=by
 refine⟨hent,fun xs a r ys h=> ?_⟩
 have h:vz (fun x y=>F (x,y,())) xs=some (r,ys):=h
 unfold vz at h;split at h
 ·rename_i hc;injection h with h
  injection h with _ h2
  subst h2;have hp1:∀x:T.den,rX (cv (U:=U) T x)=true:=fun x=>by have:=hp x;rw[hv x]at this;simpa using this
  have hpv:(fun x:T.den=>T.pv x)=fun x=>[cv (U:=U) T x]:=funext hv
  have:=Mr (pv:=fun x:T.den=>[cv (U:=U) T x]) (e:=e) h0 (XK hS hp1 hc.1.ord hc.1.Xm (fun args w=>mq hgs.1 args) (M0 (va:=fun x=>cv (U:=U) T x) (fun x w M=>Bz (hp1 x)) fun x y=>hgs.2 (x,y,()) _ (hc.1.some x y))) (by omega) (fun x=>rfl) (fun x=>by simpa using hp1 x) xs hc.2
  rw[<-hpv]at this;exact this
 ·cases h
end
end Go.TQ
end
noncomputable section
namespace Go.Proofs
open Go.Shelf
def H2:Go.Shelf.Ren:=⟨fun|6=>221|15=>240|14=>239|28=>253|29=>254|20=>245|21=>246|22=>247|23=>248|24=>249|25=>250|26=>251|27=>252|46=>273|47=>274|48=>275|49=>276|50=>277|57=>286|n=>n,fun|22=>101|24=>29|25=>119|3=>3|39=>49|0=>0|53=>208|55=>210|4=>4|46=>201|45=>200|50=>205|5=>5|9=>9|66=>223|70=>227|76=>233|77=>128|n=>n,fun|n=>n⟩
theorem GX:Go.Proofs.SlLaysF0.n6 Tryz.prog H2:={
 mixed:=by kernel_rfl
 f6:=⟨Tryz.f221.name,by decide,Tryz.func221.trans (congrArg some (by kernel_rfl))⟩
 f14:=⟨Tryz.f239.name,by decide,Tryz.func239.trans (congrArg some (by kernel_rfl))⟩
 f15:=Tryz.func240.trans (congrArg some (by kernel_rfl))
 f20:=⟨Tryz.f245.name,by decide,Tryz.func245.trans (congrArg some (by kernel_rfl))⟩
 f21:=⟨Tryz.f246.name,by decide,Tryz.func246.trans (congrArg some (by kernel_rfl))⟩
 f22:=⟨Tryz.f247.name,by decide,Tryz.func247.trans (congrArg some (by kernel_rfl))⟩
 f23:=⟨Tryz.f248.name,by decide,Tryz.func248.trans (congrArg some (by kernel_rfl))⟩
 f24:=⟨Tryz.f249.name,by decide,Tryz.func249.trans (congrArg some (by kernel_rfl))⟩
 f25:=⟨Tryz.f250.name,by decide,Tryz.func250.trans (congrArg some (by kernel_rfl))⟩
 f26:=⟨Tryz.f251.name,by decide,Tryz.func251.trans (congrArg some (by kernel_rfl))⟩
 f27:=⟨Tryz.f252.name,by decide,Tryz.func252.trans (congrArg some (by kernel_rfl))⟩
 f28:=Tryz.func253.trans (congrArg some (by kernel_rfl))
 f29:=Tryz.func254.trans (congrArg some (by kernel_rfl))
 f46:=⟨Tryz.f273.name,by decide,Tryz.func273.trans (congrArg some (by kernel_rfl))⟩
 f47:=Tryz.func274.trans (congrArg some (by kernel_rfl))
 f48:=Tryz.func275.trans (congrArg some (by kernel_rfl))
 f49:=⟨Tryz.f276.name,by decide,Tryz.func276.trans (congrArg some (by kernel_rfl))⟩
 f50:=⟨Tryz.f277.name,by decide,Tryz.func277.trans (congrArg some (by kernel_rfl))⟩
 f57:=⟨Tryz.f286.name,by decide,Tryz.func286.trans (congrArg some (by kernel_rfl))⟩
 t0:=Tryz.underlying0
 a0:=Tryz.isAgg0
 z0:=Tryz.sizeOf0
 v0:=Tryz.zeroValue0
 t3:=Tryz.underlying3
 a3:=Tryz.isAgg3
 z3:=Tryz.sizeOf3
 v3:=Tryz.zeroValue3
 t4:=Tryz.underlying4
 a4:=Tryz.isAgg4
 z4:=Tryz.sizeOf4
 v4:=Tryz.zeroValue4
 t5:=Tryz.underlying5
 a5:=Tryz.isAgg5
 z5:=Tryz.sizeOf5
 v5:=Tryz.zeroValue5
 t9:=Tryz.underlying9
 a9:=Tryz.isAgg9
 z9:=Tryz.sizeOf9
 v9:=Tryz.zeroValue9
 t22:=Tryz.underlying101
 a22:=Tryz.isAgg101
 z22:=Tryz.sizeOf101
 v22:=Tryz.zeroValue101
 t25:=Tryz.underlying119
 a25:=Tryz.isAgg119
 z25:=Tryz.sizeOf119
 v25:=Tryz.zeroValue119
 t39:=Tryz.underlying49
 a39:=Tryz.isAgg49
 z39:=Tryz.sizeOf49
 v39:=Tryz.zeroValue49
 t45:=Tryz.underlying200
 a45:=Tryz.isAgg200
 z45:=Tryz.sizeOf200
 v45:=Tryz.zeroValue200
 t46:=Tryz.underlying201
 a46:=Tryz.isAgg201
 z46:=Tryz.sizeOf201
 v46:=Tryz.zeroValue201
 t50:=Tryz.underlying205
 a50:=Tryz.isAgg205
 z50:=Tryz.sizeOf205
 v50:=Tryz.zeroValue205
 t53:=Tryz.underlying208
 a53:=Tryz.isAgg208
 z53:=Tryz.sizeOf208
 v53:=Tryz.zeroValue208
 t55:=Tryz.underlying210
 a55:=Tryz.isAgg210
 z55:=Tryz.sizeOf210
 v55:=Tryz.zeroValue210
 t66:=Tryz.underlying223
 a66:=Tryz.isAgg223
 z66:=Tryz.sizeOf223
 v66:=Tryz.zeroValue223
 t70:=Tryz.underlying227
 a70:=Tryz.isAgg227
 z70:=Tryz.sizeOf227
 v70:=Tryz.zeroValue227
 t76:=Tryz.underlying233
 a76:=Tryz.isAgg233
 z76:=Tryz.sizeOf233
 v76:=Tryz.zeroValue233
 t77:=Tryz.underlying128
 a77:=Tryz.isAgg128
 z77:=Tryz.sizeOf128
 v77:=Tryz.zeroValue128}
def yN:Go.Shelf.Ren:=⟨fun|6=>227|15=>240|14=>242|28=>253|29=>254|20=>256|21=>257|22=>258|23=>259|24=>260|25=>261|26=>262|27=>263|46=>280|47=>274|48=>275|49=>281|50=>282|57=>287|n=>n,fun|22=>94|24=>9|25=>139|3=>3|39=>49|0=>0|53=>208|55=>210|4=>4|46=>201|45=>200|50=>205|5=>5|9=>9|66=>223|70=>227|76=>233|77=>128|n=>n,fun|n=>n⟩
theorem GW:Go.Proofs.SlLaysF.n6 Tryz.prog yN:={
 mixed:=by kernel_rfl
 f6:=⟨Tryz.f227.name,by decide,Tryz.func227.trans (congrArg some (by kernel_rfl))⟩
 f14:=⟨Tryz.f242.name,by decide,Tryz.func242.trans (congrArg some (by kernel_rfl))⟩
 f15:=Tryz.func240.trans (congrArg some (by kernel_rfl))
 f20:=⟨Tryz.f256.name,by decide,Tryz.func256.trans (congrArg some (by kernel_rfl))⟩
 f21:=⟨Tryz.f257.name,by decide,Tryz.func257.trans (congrArg some (by kernel_rfl))⟩
 f22:=⟨Tryz.f258.name,by decide,Tryz.func258.trans (congrArg some (by kernel_rfl))⟩
 f23:=⟨Tryz.f259.name,by decide,Tryz.func259.trans (congrArg some (by kernel_rfl))⟩
 f24:=⟨Tryz.f260.name,by decide,Tryz.func260.trans (congrArg some (by kernel_rfl))⟩
 f25:=⟨Tryz.f261.name,by decide,Tryz.func261.trans (congrArg some (by kernel_rfl))⟩
 f26:=⟨Tryz.f262.name,by decide,Tryz.func262.trans (congrArg some (by kernel_rfl))⟩
 f27:=⟨Tryz.f263.name,by decide,Tryz.func263.trans (congrArg some (by kernel_rfl))⟩
 f28:=Tryz.func253.trans (congrArg some (by kernel_rfl))
 f29:=Tryz.func254.trans (congrArg some (by kernel_rfl))
 f46:=⟨Tryz.f280.name,by decide,Tryz.func280.trans (congrArg some (by kernel_rfl))⟩
 f47:=Tryz.func274.trans (congrArg some (by kernel_rfl))
 f48:=Tryz.func275.trans (congrArg some (by kernel_rfl))
 f49:=⟨Tryz.f281.name,by decide,Tryz.func281.trans (congrArg some (by kernel_rfl))⟩
 f50:=⟨Tryz.f282.name,by decide,Tryz.func282.trans (congrArg some (by kernel_rfl))⟩
 f57:=⟨Tryz.f287.name,by decide,Tryz.func287.trans (congrArg some (by kernel_rfl))⟩
 t0:=Tryz.underlying0
 a0:=Tryz.isAgg0
 z0:=Tryz.sizeOf0
 v0:=Tryz.zeroValue0
 t3:=Tryz.underlying3
 a3:=Tryz.isAgg3
 z3:=Tryz.sizeOf3
 v3:=Tryz.zeroValue3
 t4:=Tryz.underlying4
 a4:=Tryz.isAgg4
 z4:=Tryz.sizeOf4
 v4:=Tryz.zeroValue4
 t5:=Tryz.underlying5
 a5:=Tryz.isAgg5
 z5:=Tryz.sizeOf5
 v5:=Tryz.zeroValue5
 t9:=Tryz.underlying9
 a9:=Tryz.isAgg9
 z9:=Tryz.sizeOf9
 v9:=Tryz.zeroValue9
 t22:=Tryz.underlying94
 a22:=Tryz.isAgg94
 z22:=Tryz.sizeOf94
 v22:=Tryz.zeroValue94
 a24:=Tryz.isAgg9
 z24:=Tryz.sizeOf9
 t25:=Tryz.underlying139
 a25:=Tryz.isAgg139
 z25:=Tryz.sizeOf139
 v25:=Tryz.zeroValue139
 t39:=Tryz.underlying49
 a39:=Tryz.isAgg49
 z39:=Tryz.sizeOf49
 v39:=Tryz.zeroValue49
 t45:=Tryz.underlying200
 a45:=Tryz.isAgg200
 z45:=Tryz.sizeOf200
 v45:=Tryz.zeroValue200
 t46:=Tryz.underlying201
 a46:=Tryz.isAgg201
 z46:=Tryz.sizeOf201
 v46:=Tryz.zeroValue201
 t50:=Tryz.underlying205
 a50:=Tryz.isAgg205
 z50:=Tryz.sizeOf205
 v50:=Tryz.zeroValue205
 t53:=Tryz.underlying208
 a53:=Tryz.isAgg208
 z53:=Tryz.sizeOf208
 v53:=Tryz.zeroValue208
 t55:=Tryz.underlying210
 a55:=Tryz.isAgg210
 z55:=Tryz.sizeOf210
 v55:=Tryz.zeroValue210
 t66:=Tryz.underlying223
 a66:=Tryz.isAgg223
 z66:=Tryz.sizeOf223
 v66:=Tryz.zeroValue223
 t70:=Tryz.underlying227
 a70:=Tryz.isAgg227
 z70:=Tryz.sizeOf227
 v70:=Tryz.zeroValue227
 t76:=Tryz.underlying233
 a76:=Tryz.isAgg233
 z76:=Tryz.sizeOf233
 v76:=Tryz.zeroValue233
 t77:=Tryz.underlying128
 a77:=Tryz.isAgg128
 z77:=Tryz.sizeOf128
 v77:=Tryz.zeroValue128}
def yM:Go.Shelf.Ren:=⟨fun|6=>229|15=>240|14=>243|28=>253|29=>254|20=>264|21=>265|22=>266|23=>267|24=>268|25=>269|26=>270|27=>271|46=>283|47=>274|48=>275|49=>284|50=>285|57=>288|n=>n,fun|22=>22|24=>3|25=>43|3=>3|39=>49|0=>0|53=>208|55=>210|4=>4|46=>201|45=>200|50=>205|5=>5|9=>9|66=>223|70=>227|76=>233|77=>128|n=>n,fun|n=>n⟩
theorem GV:Go.Proofs.SlLaysF.n6 Tryz.prog yM:={
 mixed:=by kernel_rfl
 f6:=⟨Tryz.f229.name,by decide,Tryz.func229.trans (congrArg some (by kernel_rfl))⟩
 f14:=⟨Tryz.f243.name,by decide,Tryz.func243.trans (congrArg some (by kernel_rfl))⟩
 f15:=Tryz.func240.trans (congrArg some (by kernel_rfl))
 f20:=⟨Tryz.f264.name,by decide,Tryz.func264.trans (congrArg some (by kernel_rfl))⟩
 f21:=⟨Tryz.f265.name,by decide,Tryz.func265.trans (congrArg some (by kernel_rfl))⟩
 f22:=⟨Tryz.f266.name,by decide,Tryz.func266.trans (congrArg some (by kernel_rfl))⟩
 f23:=⟨Tryz.f267.name,by decide,Tryz.func267.trans (congrArg some (by kernel_rfl))⟩
 f24:=⟨Tryz.f268.name,by decide,Tryz.func268.trans (congrArg some (by kernel_rfl))⟩
 f25:=⟨Tryz.f269.name,by decide,Tryz.func269.trans (congrArg some (by kernel_rfl))⟩
 f26:=⟨Tryz.f270.name,by decide,Tryz.func270.trans (congrArg some (by kernel_rfl))⟩
 f27:=⟨Tryz.f271.name,by decide,Tryz.func271.trans (congrArg some (by kernel_rfl))⟩
 f28:=Tryz.func253.trans (congrArg some (by kernel_rfl))
 f29:=Tryz.func254.trans (congrArg some (by kernel_rfl))
 f46:=⟨Tryz.f283.name,by decide,Tryz.func283.trans (congrArg some (by kernel_rfl))⟩
 f47:=Tryz.func274.trans (congrArg some (by kernel_rfl))
 f48:=Tryz.func275.trans (congrArg some (by kernel_rfl))
 f49:=⟨Tryz.f284.name,by decide,Tryz.func284.trans (congrArg some (by kernel_rfl))⟩
 f50:=⟨Tryz.f285.name,by decide,Tryz.func285.trans (congrArg some (by kernel_rfl))⟩
 f57:=⟨Tryz.f288.name,by decide,Tryz.func288.trans (congrArg some (by kernel_rfl))⟩
 t0:=Tryz.underlying0
 a0:=Tryz.isAgg0
 z0:=Tryz.sizeOf0
 v0:=Tryz.zeroValue0
 t3:=Tryz.underlying3
 a3:=Tryz.isAgg3
 z3:=Tryz.sizeOf3
 v3:=Tryz.zeroValue3
 t4:=Tryz.underlying4
 a4:=Tryz.isAgg4
 z4:=Tryz.sizeOf4
 v4:=Tryz.zeroValue4
 t5:=Tryz.underlying5
 a5:=Tryz.isAgg5
 z5:=Tryz.sizeOf5
 v5:=Tryz.zeroValue5
 t9:=Tryz.underlying9
 a9:=Tryz.isAgg9
 z9:=Tryz.sizeOf9
 v9:=Tryz.zeroValue9
 t22:=Tryz.underlying22
 a22:=Tryz.isAgg22
 z22:=Tryz.sizeOf22
 v22:=Tryz.zeroValue22
 a24:=Tryz.isAgg3
 z24:=Tryz.sizeOf3
 t25:=Tryz.underlying43
 a25:=Tryz.isAgg43
 z25:=Tryz.sizeOf43
 v25:=Tryz.zeroValue43
 t39:=Tryz.underlying49
 a39:=Tryz.isAgg49
 z39:=Tryz.sizeOf49
 v39:=Tryz.zeroValue49
 t45:=Tryz.underlying200
 a45:=Tryz.isAgg200
 z45:=Tryz.sizeOf200
 v45:=Tryz.zeroValue200
 t46:=Tryz.underlying201
 a46:=Tryz.isAgg201
 z46:=Tryz.sizeOf201
 v46:=Tryz.zeroValue201
 t50:=Tryz.underlying205
 a50:=Tryz.isAgg205
 z50:=Tryz.sizeOf205
 v50:=Tryz.zeroValue205
 t53:=Tryz.underlying208
 a53:=Tryz.isAgg208
 z53:=Tryz.sizeOf208
 v53:=Tryz.zeroValue208
 t55:=Tryz.underlying210
 a55:=Tryz.isAgg210
 z55:=Tryz.sizeOf210
 v55:=Tryz.zeroValue210
 t66:=Tryz.underlying223
 a66:=Tryz.isAgg223
 z66:=Tryz.sizeOf223
 v66:=Tryz.zeroValue223
 t70:=Tryz.underlying227
 a70:=Tryz.isAgg227
 z70:=Tryz.sizeOf227
 v70:=Tryz.zeroValue227
 t76:=Tryz.underlying233
 a76:=Tryz.isAgg233
 z76:=Tryz.sizeOf233
 v76:=Tryz.zeroValue233
 t77:=Tryz.underlying128
 a77:=Tryz.isAgg128
 z77:=Tryz.sizeOf128
 v77:=Tryz.zeroValue128}
end Go.Proofs
namespace Go.Proofs.YtkgenianmdfmdaaGreat
open Go.TQ Go.Proofs
namespace Fj
theorem enters:Go.TQ.Enters Tryz.prog 221:=⟨_,Tryz.func221,by kernel_rfl,by kernel_rfl⟩
theorem none:Ck Tryz.prog 221:=fun p cap fv w=>AnyF.slices_SortFunc_none GX p cap fv w
theorem Fk:LD Tryz.prog 221 2:=fun α _ bI hk h1 cf hO g cb bC off cap d w eg hc hH hb hsz hT=>AnyQ.slices_SortFunc_total GX 2 Tryz.isAgg29 Tryz.sizeOf29 bI hk h1 cf hO g cb bC off cap d w eg hc hH hb hsz hT
end Fj
namespace Fi
theorem enters:Go.TQ.Enters Tryz.prog 227:=⟨_,Tryz.func227,by kernel_rfl,by kernel_rfl⟩
theorem none:Ck Tryz.prog 227:=fun p cap fv w=>AnyF.slices_SortFunc_none (P:=Tryz.prog) (ρ:=yN) {GW with} p cap fv w
theorem Fk:GY Tryz.prog 227:=fun α _ bI h1 cf hO g cb bC off cap d w eg hc hH hb hsz hT=>Any.slices_SortFunc_total GW bI h1 cf hO g cb bC off cap d w eg hc hH hb hsz hT
end Fi
namespace Fh
theorem enters:Go.TQ.Enters Tryz.prog 229:=⟨_,Tryz.func229,by kernel_rfl,by kernel_rfl⟩
theorem none:Ck Tryz.prog 229:=fun p cap fv w=>AnyF.slices_SortFunc_none (P:=Tryz.prog) (ρ:=yM) {GV with} p cap fv w
theorem Fk:GY Tryz.prog 229:=fun α _ bI h1 cf hO g cb bC off cap d w eg hc hH hb hsz hT=>Any.slices_SortFunc_total GV bI h1 cf hO g cb bC off cap d w eg hc hH hb hsz hT
end Fh
end Go.Proofs.YtkgenianmdfmdaaGreat
end
