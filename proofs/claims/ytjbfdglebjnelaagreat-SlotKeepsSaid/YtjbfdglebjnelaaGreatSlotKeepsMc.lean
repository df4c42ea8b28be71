/-
  Texts made small by a program (see NOTES). Conditions: those that each theorem names.
-/
import Derived.Test.YtjbfdglebjnelaaGreatSlotKeepsMb
import Derived.KernelRfl
import Derived.Laws.CopyRow
import Derived.Laws.Externs
import Derived.Lib.Overlaps
import Derived.Lib.AppendZerosOnto
import Derived.Laws.NewBlocks
import Derived.Test.YtjbfdglebjnelaaGreatProg
import Derived.Shelf.Spec.SlicesInsert
import Derived.Shelf.SlSortCmp.NoneTotal
set_option linter.unusedVariables false
set_option linter.unusedSimpArgs false
set_option linter.unusedSectionVars false
set_option maxHeartbeats 2000000
noncomputable section
namespace Go.TQ
open Go.RowKit
def pL{σ ρ:Type}(step:σ->Option (σ⊕ρ)):Nat->σ->Option ρ
 |0,_=>none
 |n+1,s=>match step s with
  |none=>none
  |some (.inr r)=>some r
  |some (.inl s')=>pL step n s'
theorem FV{σ ρ:Type}{step:σ->Option (σ⊕ρ)}{r:ρ}:∀{n m:Nat} {s:σ},n<=m->pL step n s=some r->pL step m s=some r
 |0,_,_,_,h=>by cases h
 |n+1,0,_,hnm,_=>by omega
 |n+1,m+1,s,hnm,h=>by
  simp only[pL]at h ⊢;split at h
  ·cases h
  ·exact h
  ·exact FV (by omega) h
theorem abw{σ ρ:Type}{step:σ->Option (σ⊕ρ)}{r r':ρ}{n m:Nat}{s:σ}(h:pL step n s=some r)(h':pL step m s=some r'):r=r':=by
 have h1:=FV (Nat.le_max_left n m) h;have h2:=FV (Nat.le_max_right n m) h';rw[h1]at h2;injection h2
open Classical in
 def aF{σ ρ:Type}(step:σ->Option (σ⊕ρ))(s:σ):Option ρ:=
 if h:∃r,∃n,pL step n s=some r then some (Classical.choose h)else none
theorem A1{σ ρ:Type}{step:σ->Option (σ⊕ρ)}{s:σ}{r:ρ}(h:aF step s=some r):∃n,pL step n s=some r:=by
 unfold aF at h;split at h
 ·rename_i hx;injection h with h
  obtain⟨n,hn⟩:=Classical.choose_spec hx;exact⟨n,by rw[hn,h]⟩
 ·cases h
theorem Mj{σ ρ:Type}{step:σ->Option (σ⊕ρ)}{s:σ}{r:ρ}{n:Nat}(h:pL step n s=some r):aF step s=some r:=by
 unfold aF;have hx:∃r,∃n,pL step n s=some r:=⟨r,n,h⟩;rw[dif_pos hx];obtain⟨m,hm⟩:=Classical.choose_spec hx;rw[abw hm h]
theorem jd{σ ρ:Type}(step:σ->Option (σ⊕ρ))(s:σ):aF step s=match step s with|none=>none|some (.inr r)=>some r|some (.inl s')=>aF step s':=by
 cases hs:step s with
 |none=>
  cases h:aF step s with
  |none=>rfl
  |some r=>
   obtain⟨n,hn⟩:=A1 h
   cases n with
   |zero=>cases hn
   |succ n=>simp[pL,hs]at hn
 |some x=>
  cases x with
  |inr r=>exact Mj (n:=1) (by simp[pL,hs])
  |inl s'=>
   simp only
   cases h':aF step s' with
   |some r=>
    obtain⟨n,hn⟩:=A1 h';exact Mj (n:=n+1) (by simp only[pL,hs];exact hn)
   |none=>
    cases h:aF step s with
    |none=>rfl
    |some r=>
     obtain⟨n,hn⟩:=A1 h
     cases n with
     |zero=>cases hn
     |succ n=>simp only[pL,hs]at hn;rw[Mj hn]at h';cases h'
open Classical in
 def both{ρ:Type}(x y:Option ρ):Option ρ:=if x=y then x else none
theorem abY{ρ:Type}{x y:Option ρ}{r:ρ}(h:both x y=some r):x=some r/\y=some r:=by
 unfold both at h;split at h
 ·rename_i e;exact⟨h,e▸h⟩
 ·cases h
@[simp] theorem aiZ {ρ:Type} (x:Option ρ):both x x=x:=Qr rfl
def aY{σ ρ:Type}(j:σ->Option ρ)(f:(σ->Option ρ)->Option ρ):Option ρ:=f j
def me{α σ ρ:Type}(step:Nat->α->σ->Option (σ⊕ρ))(fin:σ->Option ρ):List α->σ->Option ρ
 |[],s=>fin s
 |a::l,s=>match step l.length a s with
  |none=>none
  |some (.inr r)=>some r
  |some (.inl s')=>me step fin l s'
section
variable {U : TU}
inductive SA (U:TU) where
 |skip
 |uC (rs:RS U)
 |sC (un:List (Nat×Nat)) (rs:RS U)
 |seq (x y:SA U)
 |join (J:JS U) (x y:SA U)
 |cond (c:bm) (x y:SA U)
 |block (id:Nat) (x:SA U)
 |loop (J:JS U) (x:SA U)
 |unr (n:Nat) (x:SA U)
 |back (J:JS U) (f k:Nat) (nE:Option Nat) (T:U.Ty) (tg p0 p1:Nat) (x y:SA U)
 |exit (id:Nat)
 |ret
 |ps (p:Ps U) (x:SA U)
 |Gq (p:Ps U) (x:SA U)
def SA.erase:SA U->SC
 | .skip=> .skip
 | .uC rs=> .uC rs.flat
 | .sC un rs=> .sC un rs.flat
 | .seq x y=> .seq x.erase y.erase
 | .join _ x y=> .seq x.erase y.erase
 | .cond c x y=> .cond c x.erase y.erase
 | .block id x=> .block id x.erase
 | .loop _ x=> .loop x.erase
 | .unr _ x=> .loop x.erase
 | .back _ _ _ _ _ tg p0 p1 x y=> .Ec (.tmp tg) [p0,p1] x.erase y.erase
 | .exit id=> .exit id
 | .ret=> .ret
 | .ps _ x=>x.erase
 | .Gq _ x=>x.erase
def SA.dy:SA U->Bool
 | .uC rs=>rs.dy
 | .sC _ rs=>rs.dy
 | .seq x y=>x.dy&&y.dy
 | .join _ x y=>x.dy&&y.dy
 | .cond c x y=>c.dy&&x.dy&&y.dy
 | .block _ x=>x.dy
 | .loop _ x=>x.dy
 | .unr _ x=>x.dy
 | .back _ _ _ _ _ _ _ _ x y=>x.dy&&y.dy
 | .ps _ x=>x.dy
 | .Gq _ x=>x.dy
 |_=>true
variable (K : TK U)
def CI(Γ:List (dw U)){ρ:Type}(W:WS)(base:Nat):RS U->(i:Nat)->(S:aX U)->(k:aX U->List uV->Option ρ)->Option ρ
 | .nil,_,S,k=>k S []
 | .op o r,i,S,k=>Z8 K Γ W (base+i) S o fun x wr=>CI Γ W base r (i+1) (S.cI o.d x wr) fun S' fs=>k S' (⟨o.d,o.bX,EA (base+i) S.st o,wr.map (·.1)⟩::fs)
 | .Ax t r,i,S,k=>(match S.env t with
  | .bool b=>bif b then CI Γ W base r i (S.cI (some t) (.bool true) none) k else CI Γ W base r i (S.cI (some t) (.bool false) none) k
  | .undef=>CI Γ W base r i S k
  |_=>none)
 |_,_,_,_=>none
def H7(F:List Nat)(ds:List Nat):Bool:=ds.all fun t=> !hZ t F
def aX.more(S:aX U)(n:Nat):aX U:={env:=S.env,H:=S.H,N:=S.N+n}
def aX.fM(S:aX U)(D:List Nat):aX U:={env:=fun t=>(match hZ t D with|true=> .any|false=>S.env t),H:=S.H,N:=S.N}
def ZN(U:TU)(T:U.Ty):Option Nat->Bool
 |none=> !U.agg T
 |some n=>U.agg T&&Nat.beq n (U.size T)
def UM{ρ:Type}(f:(aX U->Option ρ)->aX U->Option ρ):Nat->aX U->Option ρ
 |0,_=>none
 |n+1,S=>f (UM f n) S
 def nL(Γ:List (dw U)):SA U->{ρ:Type}->(F:List Nat)->(W:WS)->(k:Exit->aX U->Option ρ)->(S:aX U)->Option ρ
 | .skip,_,_,_,k,S=>k .normal S
 | .uC rs,_,F,W,k,S=>(match H7 F rs.jB with
  |true=>kg K Γ rs W S.N (S.more rs.len) fun S'=>k .normal S'
  |false=>none)
 | .sC un rs,_,F,W,k,S=>(match H7 F rs.jB with
  |true=>CI K Γ W S.N rs 0 (S.more rs.len) fun S' fs=>(match un.all (fun p=>match fs[p.1]?,fs[p.2]? with|some a,some b=>B0 a b|_,_=>false)with
   |true=>k .normal S'
   |false=>none)
  |false=>none)
 | .seq x y,_,F,W,k,S=>nL Γ x F W (fun e S'=>match e with
  | .normal=>nL Γ y F W k S'
  |e=>k e S') S
 | .join J x y,_,F,W,k,S=>(match tt S J F W with
  |true=>aY (fun v=>nL Γ y F W k (unpack K S J v)) fun j=>nL Γ x J.ew (some (S.N,eZ J.items)) (fun e S'=>match e with
   | .normal=>(match pack K S' J.items with|some v=>j v|none=>none)
   |e=>k e S') S
  |false=>none)
 | .cond c x y,_,F,W,k,S=>(match c.cO S with
  | .bool b=>bif b then nL Γ x F W k S else nL Γ y F W k S
  | .fY=>both (nL Γ x F W k S) (nL Γ y F W k S)
  |_=>none)
 | .block id x,_,F,W,k,S=>nL Γ x F W (fun e S'=>match e with
  | .exit i=>(match Nat.beq i id with|true=>k .normal S'|false=>k (.exit i) S')
  |e=>k e S') S
 | .loop J x,_,F,W,k,S=>(match tt S J F W with
  |true=>(match pack K S J.items with
   |some v0=>aF (fun v=>nL Γ x J.ew (some (S.N,eZ J.items)) (fun e S'=>match e with
    | .normal=>(match pack K S' J.items with|some v=>some (Sum.inl v)|none=>none)
    |e=>(k e S').map Sum.inr) (unpack K S J v)) v0
   |none=>none)
  |false=>none)
 | .unr n x,_,F,W,k,S=>UM (fun ih S=>nL Γ x F W (fun e S'=>match e with| .normal=>ih S'|e=>k e S') S) n S
 | .back J f kk nE T tg p0 p1 x y,_,F,W,k,S=>
  let D:=SC.sP (.Ec (.tmp tg) [p0,p1] x.erase y.erase)
  (match OV f kk nE Γ&&Nat.beq (U.size T) kk&&ZN U T nE&&hZ tg J.ew&&H7 J.ew D&&H7 F D&&tt (S.fM D) J F W with
  |true=>(match S.env tg with
   | .bH f' [.ref [.sl T' xs']]=>(match Nat.beq f' f with
    |true=>(match zB T' T xs' with
     |some xs=>(match pack K (S.fM D) J.items with
      |some v0=>me (fun m a v=>nL Γ x J.ew (some (S.N,eZ J.items)) (fun e S1=>match e with
       | .normal=>nL Γ y J.ew (some (S.N,eZ J.items)) (fun e S'=>match e with
        | .normal=>(match pack K (S'.fM D) J.items with|some v=>some (Sum.inl v)|none=>none)
        | .ret=>(k .ret (S'.fM D)).map Sum.inr
        | .exit i=>(k (.exit i) (S'.fM D)).map Sum.inr
        |_=>none) S1
       |_=>none) {(unpack K (S.fM D) J v)with env:=gI (gI (unpack K (S.fM D) J v).env p0 (.int .i64 m)) p1 (vT K T a)}) (fun v=>k .normal (unpack K (S.fM D) J v)) xs.reverse v0
      |none=>none)
     |none=>none)
    |false=>none)
   |_=>none)
  |false=>none)
 | .exit id,_,_,_,k,S=>k (.exit id) S
 | .ret,_,_,_,k,S=>k .ret S
 | .ps p x,_,F,W,k,S=>(match(p.FA S).all (okW W)&&H7 F p.tmps with
  |true=>(match p.run S with|some S'=>nL Γ x F W k S'|none=>none)
  |false=>none)
 | .Gq p x,_,F,W,k,S=>nL Γ x F W (fun e S'=>match e with
  | .normal=>(match(p.FA S').all (okW W)&&H7 F p.tmps with
   |true=>(match p.run S' with|some S1=>k .normal S1|none=>none)
   |false=>none)
  |e=>k e S') S
structure iU (F:List Nat) (W:WS) (S S':aX U):Prop where
 env:∀t∈F,S'.env t=S.env t
 H:∀id,okW W id=false->S'.H id=S.H id
 N:S.N<=S'.N
theorem iU.refl(F:List Nat)(W:WS)(S:aX U):iU F W S S:=⟨fun _ _=>rfl,fun _ _=>rfl,QI _⟩
theorem iU.trans{F:List Nat}{W:WS}{S S' S'':aX U}(h:iU F W S S')(h':iU F W S' S''):iU F W S S'':=
 ⟨fun t ht=>(h'.env t ht).trans (h.env t ht),fun id hid=>(h'.H id hid).trans (h.H id hid),QK h.N h'.N⟩
theorem AJ.toC{D F:List Nat}{W:WS}{S S':aX U}(h:AJ D W S S')(ho:H7 F D=true):iU F W S S':=
 ⟨fun t ht=>h.env t (fun hd=>by have h1:=QH.1 ho t hd;rw[eo.2 ht]at h1;cases h1),h.H,h.N⟩
theorem iU.more{F:List Nat}{W:WS}{S S':aX U}{n:Nat}(h:iU F W (S.more n) S'):iU F W S S':=
 ⟨h.env,h.H,QK (Nat.le_add_right _ _) h.N⟩
variable {K}
variable {P : Program} {nt : Nat}
theorem YX{sc:SC}{Q:Exit->St->Prop}{S S':St}(hw:∀(E:En) (a:Act) (w:World) (L:Nat->Value),Rel E S a w L->∃L',Rel E S' a w L')(h:VS P nt sc Q S'):VS P nt sc Q S:=
 fun c hs hc E hE hk a w L hr=>by
  obtain⟨L',h'⟩:=hw E a w L hr;exact h c hs hc E hE hk a w L' h'
theorem agb{sc:SC}{Q Q':Exit->St->Prop}{S:St}(h:VS P nt sc Q' S)(hq:∀e A,Q' e A->∃A',Q e A'/\∀(E:En) (a:Act) (w:World) (L:Nat->Value),Rel E A a w L->∃L',Rel E A' a w L'):VS P nt sc Q S:=
 fun c hs hc E hE hk a w L hr=>wpIn_mono (h c hs hc E hE hk a w L hr) fun _ _ _ ⟨S',L',h1,h2⟩=>by
  obtain⟨A',h3,h4⟩:=hq _ _ h2;obtain⟨L'',h5⟩:=h4 _ _ _ _ h1;exact⟨A',L'',h5,h3⟩
theorem aga{Γ:List (dw U)}(hΓ:tM P Γ){rs:RS U}{W:WS}{ρ:Type}{k:aX U->Option ρ}{r:ρ}{S:aX U}(hok:rs.dy=true)(hr:kg K Γ rs W S.N (S.more rs.len) k=some r){Q:Exit->St->Prop}
  (h:∀S',AJ rs.jB W (S.more rs.len) S'->k S'=some r->Q .normal S'.st):VS P nt (.uC rs.flat) Q S.st:=by
 intro c hs hc
 cases c with
 |region id ops d=>
  cases d with
  |true=>simp only[aK]at hc;(try split at hc)<;>(try split at hc)<;>(try split at hc)<;>cases hc
  |false=>
   simp only[aK]at hc;split at hc
   ·rename_i gs' hgs;split at hc
    ·rename_i hd;injection hc with hc
     injection hc with hc
     subst hc;intro E hE hk a w L hrel;refine wpIn_region_list ?_;have h0:Rel E (S.more rs.len).st a w L:=hrel.room rs.len;have:=oF (K:=K) (E:=E) hΓ (ops:=ops) (Q:=fun e a' w'=>∃S' L',Rel E S' a' w' L'/\Q e S') rs W S.N (S.more rs.len) k r ops.toList [] a w L hok hgs h0 (QI _) (WN hE hk (O5 hd)) hr (fun S' a' w' L' hf h' hk'=>⟨S'.st,L',h',h S' hf hk'⟩)
     simpa using this
    ·cases hc
   ·cases hc
 |seq x y=>simp only[aK]at hc;split at hc<;>cases hc
 |cond c x y=>simp only[aK]at hc;split at hc<;>cases hc
 |block id c=>simp only[aK,Qb]at hc;obtain⟨_,_,hc⟩:=hc;cases hc
 |loop c=>simp only[aK,Qb]at hc;obtain⟨_,_,hc⟩:=hc;cases hc
 |rangeFunc g ps x y=>simp only[aK]at hc;split at hc<;>(try split at hc)<;>cases hc
 |_=>simp only[aK]at hc<;>cases hc
theorem NP{Γs Γs':Nat->nM}{base:Nat}:∀(l:List (Nat×SG)) (S:St),(∀p∈l,Γs p.1=Γs' p.1)->nF Γs base l S=nF Γs' base l S
 |[],_,_=>rfl
 |(i,g)::l,S,h=>by
  simp only[nF,h (i,g) (by simp)]
  split
  ·rfl
  ·rename_i p hp;rw[NP l _ fun q hq=>h q (Qy _ hq)]
theorem u9{Γ:List (dw U)}(hΓ:tM P Γ){W:WS}{base:Nat}{ρ:Type}{r:ρ}:∀(rs:RS U) (i:Nat) (S:aX U) (k:aX U->List uV->Option ρ),rs.dy=true->CI K Γ W base rs i S k=some r->
  ∃(Γs:Nat->nM) (S':aX U) (fs:List uV),(∀j,kD P (Γs j))/\nF Γs base ((rs.flat.zipIdx i).map fun p=>(p.2,p.1)) S.st=some (S'.st,fs)/\AJ rs.jB W S S'/\k S' fs=some r
 | .nil,i,S,k,_,h=>⟨fun _ _=>none,S,[],fun _=>ZL,rfl,AJ.refl _ _ _,h⟩
 | .op o rs,i,S,k,hok,h=>by
  simp only[RS.dy,Qm]at hok;simp only[CI]at h;obtain⟨Γ',x,wr,h1,h2,h3,h4⟩:=O4 hΓ hok.1 h;obtain⟨Γs,S',fs,h5,h6,h7,h8⟩:=u9 hΓ rs (i+1) _ _ hok.2 h4;refine⟨fun j=>if j=i then Γ' else Γs j,S',_,fun j=> ?_,?_,?_,h8⟩
  ·simp only;split
   ·exact h1
   ·exact h5 j
  ·simp only[RS.flat,List.zipIdx_cons,QD,nF,Qt,h2]
   have:nF (fun j=>if j=i then Γ' else Γs j) base ((rs.flat.zipIdx (i+1)).map fun p=>(p.2,p.1)) (S.st.cI o.d x.pv (wr.map jJ))=some (S'.st,fs):=by
    rw[<-Hf,<-h6];refine NP _ _ fun p hp=> ?_
    obtain⟨q,hq,rfl⟩:=QP.1 hp;have:=List.mem_zipIdx hq;simp only;rw[Qs (by omega)]
   rw[this];simp only[DB]
   cases wr with
   |none=>rfl
   |some p=>rfl
  ·refine(YT S W o.d x wr h3).trans h7 fun t ht=> ?_
   simp only[RS.jB]at ht
   cases hdd:o.d with
   |none=>rw[hdd]at ht;exact⟨by simp,ht⟩
   |some d=>rw[hdd]at ht;simp only[QA,not_or]at ht;exact⟨by simpa using fun e=>ht.1 e,ht.2⟩
 | .Ax t rs,i,S,k,hok,h=>by
  simp only[CI]at h;split at h
  ·rename_i b hb
   cases b with
   |true=>rw[Qk,Ca hb]at h;exact u9 hΓ rs i S k hok h
   |false=>rw[Ql,Ca hb]at h;exact u9 hΓ rs i S k hok h
  ·exact u9 hΓ rs i S k hok h
  ·cases h
 | .ps _ _,_,_,_,_,h=>by cases h
 | .ite _ _ _ _ _ _ _ _,_,_,_,_,h=>by cases h
theorem af8{c:Code}{Q:Exit->St->Prop}{S:St}(I:Nat->St->Prop)(m0:Nat){S0:St}(hw0:∀(E:En) (a:Act) (w:World) (L:Nat->Value),Rel E S a w L->∃L',Rel E S0 a w L')(h0:I m0 S0)
  (hr:∀m S,I m S->V P nt c (fun e S'=>match e with| .normal=>∃m',m'<m/\∃S'',(∀(E:En) (a:Act) (w:World) (L:Nat->Value),Rel E S' a w L->∃L',Rel E S'' a w L')/\I m' S''|e=>Q e S') S):V P nt (.loop c) Q S:=fun E hE hk a w L hrel=>by
 refine wpIn_loop_ghost (fun m a w=>∃S L,I m S/\Rel E S a w L) m0 ?_ ?_
 ·obtain⟨L',h'⟩:=hw0 E a w L hrel;exact⟨S0,L',h0,h'⟩
 rintro m a w ⟨S1,L1,hI,h1⟩;refine wpIn_mono (hr m S1 hI E hE hk a w L1 h1) ?_;rintro e a' w' ⟨S',L',h2,h3⟩
 cases e with
 |normal=>
  obtain⟨m',hlt,S'',hw,hI'⟩:=h3;obtain⟨L'',h4⟩:=hw E a' w' L' h2;exact⟨m',hlt,S'',L'',hI',h4⟩
 |exit i=>exact⟨S',L',h2,h3⟩
 |goto l=>exact⟨S',L',h2,h3⟩
 |ret=>exact⟨S',L',h2,h3⟩
 |panic c=>exact⟨S',L',h2,h3⟩
 |outgrown=>exact⟨S',L',h2,h3⟩
theorem Xc{x:SC}{Q:Exit->St->Prop}{S:St}(I:Nat->St->Prop)(m0:Nat){S0:St}(hw0:∀(E:En) (a:Act) (w:World) (L:Nat->Value),Rel E S a w L->∃L',Rel E S0 a w L')(h0:I m0 S0)
  (hr:∀m S,I m S->VS P nt x (fun e S'=>match e with| .normal=>∃m',m'<m/\∃S'',(∀(E:En) (a:Act) (w:World) (L:Nat->Value),Rel E S' a w L->∃L',Rel E S'' a w L')/\I m' S''|e=>Q e S') S):VS P nt (.loop x) Q S:=by
 intro c hs hc
 cases c with
 |loop p=>
  simp only[aK,Qb]at hc;obtain⟨x',hx,hc⟩:=hc;injection hc with h1
  subst h1;exact af8 I m0 hw0 h0 (fun m S hI=>hr m S hI p hs hx)
 |region id ops d=>cases d<;>simp only[aK]at hc<;>(try split at hc)<;>(try split at hc)<;>(try split at hc)<;>cases hc
 |seq x y=>simp only[aK]at hc;split at hc<;>cases hc
 |cond c x y=>simp only[aK]at hc;split at hc<;>cases hc
 |block id c=>simp only[aK,Qb]at hc;obtain⟨_,_,hc⟩:=hc;cases hc
 |rangeFunc g ps x y=>simp only[aK]at hc;split at hc<;>(try split at hc)<;>cases hc
 |_=>simp only[aK]at hc<;>cases hc
theorem Mi{S:aX U}{J:JS U}{F:List Nat}{W:WS}(hchk:tt S J F W=true)(v:rn J.items):iU F W S (unpack K S J v):=by
 simp only[tt,Qm,QH]at hchk;obtain⟨⟨⟨⟨⟨⟨hnd,hids⟩,hokv⟩,hkeep⟩,hobj⟩,hF⟩,hW⟩:=hchk;refine⟨fun t ht=> ?_,fun id hid=> ?_,?_⟩
 ·have hk:=eo.1 (hF t ht);have hns:hZ t (slotsOf J.items)=false:=by simpa using(hkeep t hk).2
  rcases zL (K:=K) (S.base J.ew) J.items v t with⟨⟨i,d⟩,hmem,h1,h2⟩|⟨_,h2⟩
  ·exact absurd (CQ (kv hmem) h1) (pw hns)
  ·rw[show(unpack K S J v).env t=_ from h2,Ga,Qr hk]
 ·have hlt:id<S.N:=by
   cases W with
   |none=>cases hW
   |some q=>
    obtain⟨n,l⟩:=q;simp only at hW;simp only[okW,Bool.or_eq_false_iff]at hid;have h1:=QG hW;have h2:¬n<=id:=fun hle=>by rw[Nat.ble_eq_true_of_le hle]at hid;cases hid.1
    omega
  rcases Eg (K:=K) (S.base J.ew) J.items v id hnd with⟨⟨i,d⟩,hmem,h1,h2⟩|⟨_,h2⟩
  ·have:=(hids id (ub (kv hmem) h1)).2;rw[hid]at this;cases this
  ·rw[show(unpack K S J v).H id=_ from h2,Ph,Qr hlt]
 ·rw[unpack,Ef,Pg];exact QI _
theorem Ia{S S1:aX U}{J:JS U}{F:List Nat}{W:WS}(hchk:tt S J F W=true){v:rn J.items}(hp:pack K S1 J.items=some v)(hf:iU J.ew (some (S.N,eZ J.items)) S S1):
  ∀(E:En) (a:Act) (w:World) (L:Nat->Value),Rel E S1.st a w L->∃L',Rel E (unpack K S J v).st a w L':=by
 intro E a w L h;refine⟨L,Rel.meet hchk hp hf.env (fun id hid hni=>hf.H id ?_) hf.N h⟩
 simp only[okW,Bool.or_eq_false_iff];refine⟨?_,?_⟩
 ·cases hb:Nat.ble S.N id with
  |false=>rfl
  |true=>have:=QG hb;omega
 ·cases hb:hZ id (eZ J.items)with
  |false=>rfl
  |true=>exact absurd (eo.1 hb) hni
theorem E2(S:aX U)(D:List Nat):(S.fM D).st=S.st.ug D:=by
 unfold aX.fM aX.st St.ug;congr 1
 funext t
 simp only
 by_cases h:t∈D
 ·rw[Qr h,eo.2 h];rfl
 ·rw[Qs h]
  cases hb:hZ t D with
  |true=>exact absurd (eo.1 hb) h
  |false=>rfl
theorem F0{F D:List Nat}(h:H7 F D=true)(W:WS)(S:aX U):iU F W S (S.fM D):=
 ⟨fun t ht=>by
  have hn:hZ t D=false:=by
   cases hb:hZ t D with
   |false=>rfl
   |true=>
    have:=QH.1 h t (eo.1 hb);rw[eo.2 ht]at this;cases this
  simp only[aX.fM,hn],fun _ _=>rfl,QI _⟩
theorem VN{S:aX U}{J:JS U}{F:List Nat}{W:WS}(hchk:tt S J F W=true)(v:rn J.items){S':aX U}(hf:iU J.ew (some (S.N,eZ J.items)) (unpack K S J v) S'):iU F W S S':=by
 have hm:=Mi (K:=K) hchk v;refine hm.trans ?_;simp only[tt,Qm,QH]at hchk;obtain⟨⟨⟨⟨⟨⟨hnd,hids⟩,hokv⟩,hkeep⟩,hobj⟩,hF⟩,hW⟩:=hchk;refine⟨fun t ht=>hf.env t (eo.1 (hF t ht)),fun id hid=>hf.H id ?_,hf.N⟩
 simp only[okW,Bool.or_eq_false_iff];refine⟨?_,?_⟩
 ·cases W with
  |none=>cases hW
  |some q=>
   obtain⟨n,l⟩:=q;simp only at hW;simp only[okW,Bool.or_eq_false_iff]at hid;have h1:=QG hW
   cases hb:Nat.ble S.N id with
   |false=>rfl
   |true=>have:=QG hb;rw[Nat.ble_eq_true_of_le (QK h1 this)]at hid;cases hid.1
 ·cases hb:hZ id (eZ J.items)with
  |false=>rfl
  |true=>have:=(hids id (eo.1 hb)).2;rw[hid]at this;cases this
theorem SS{S:aX U}{J:JS U}{F:List Nat}{W:WS}(hchk:tt S J F W=true)(v:rn J.items){t:Nat}(ht:t∈J.ew):(unpack K S J v).env t=S.env t:=by
 simp only[tt,Qm,QH]at hchk;obtain⟨⟨⟨⟨⟨⟨hnd,hids⟩,hokv⟩,hkeep⟩,hobj⟩,hF⟩,hW⟩:=hchk;have hns:hZ t (slotsOf J.items)=false:=by simpa using(hkeep t ht).2
 rcases zL (K:=K) (S.base J.ew) J.items v t with⟨⟨i,d⟩,hmem,h1,h2⟩|⟨_,h2⟩
 ·exact absurd (CQ (kv hmem) h1) (pw hns)
 ·rw[show(unpack K S J v).env t=_ from h2,Ga,Qr ht]
theorem abq{S:aX U}{J:JS U}{F:List Nat}{W:WS}(hchk:tt S J F W=true)(v:rn J.items){S':aX U}(hf:iU J.ew (some (S.N,eZ J.items)) (unpack K S J v) S'){v':rn J.items}(hv':pack K S' J.items=some v'):
  ∀(E:En) (a:Act) (w:World) (L:Nat->Value),Rel E S'.st a w L->∃L',Rel E (unpack K S J v').st a w L':=by
 intro E a w L hrel;have hkp:=fun{t} ht=>SS (K:=K) hchk v (t:=t) ht
 have hc:=hchk;simp only[tt,Qm,QH]at hc;obtain⟨⟨⟨⟨⟨⟨hnd,hids⟩,hokv⟩,hkeep⟩,hobj⟩,hF⟩,hW⟩:=hc;refine⟨L,Rel.meet hchk hv' (fun t ht=>(hf.env t ht).trans (hkp ht)) (fun id hid hni=>(hf.H id ?_).trans ?_) (by have:=hf.N;rw[unpack,Ef,Pg]at this;exact this) hrel⟩
 ·simp only[okW,Bool.or_eq_false_iff];refine⟨?_,?_⟩
  ·cases hb:Nat.ble S.N id with
   |false=>rfl
   |true=>have:=QG hb;omega
  ·cases hb:hZ id (eZ J.items)with
   |false=>rfl
   |true=>exact absurd (eo.1 hb) hni
 ·rcases Eg (K:=K) (S.base J.ew) J.items v id hnd with⟨⟨i,d⟩,hmem,h1,h2⟩|⟨_,h2⟩
  ·exact absurd (ub (kv hmem) h1) hni
  ·rw[show(unpack K S J v).H id=_ from h2,Ph,Qr hid]
theorem adB{T:U.Ty}{k:Nat}{nE:Option Nat}(hsz:U.size T=k)(hnE:ZN U T nE=true)(xs:List (U.den T)):I2 k nE (xs.map (U.pv T))/\∀a:U.den T,zY nE (U.pv T a)=(vT K T a).pv:=by
 have key:∀a:U.den T,sy nE (U.pv T a)=some (dn T a):=by
  intro a;unfold dn
  cases nE with
  |none=>
   simp only[ZN,Bool.not_eq_true']at hnE;have h1:=K.len T a;rw[K.one T hnE]at h1;rw[hnE]
   match h2:U.pv T a with
   |[]=>rw[h2]at h1;cases h1
   |x::l=>rfl
  |some n=>
   simp only[ZN,Qm]at hnE;have h1:=QF hnE.2;subst h1;rw[hnE.1,sy,Qr (by rw[K.len];exact QI _),<-K.len T a,List.take_length]
 have hev:∀a:U.den T,zY nE (U.pv T a)=dn T a:=fun a=>by simp only[zY,key,Q3]
 refine⟨⟨fun e he=> ?_,fun e he=> ?_,fun e he=> ?_⟩,fun a=>by rw[hev,wM]⟩
 ·obtain⟨a,_,rfl⟩:=QP.1 he;rw[K.len,hsz]
 ·obtain⟨a,_,rfl⟩:=QP.1 he;rw[hev,key]
 ·obtain⟨a,_,rfl⟩:=QP.1 he;rw[hev];unfold dn;split
  ·exact QH.2 fun y hy=>gd (K.gn T a y hy)
  ·cases h2:U.pv T a with
   |nil=>have:=K.len T a;rename_i hag;rw[K.one T hag,h2]at this;cases this
   |cons x l=>
    have h3:=gd (K.gn T a x (by rw[h2];exact Qx))
    have h4:=K.gn T a x (by rw[h2];exact Qx)
    cases x<;>first|exact h3|(cases h4)
theorem er{Γ:List (dw U)}(hΓ:tM P Γ):∀(sa:SA U) {ρ:Type} (F:List Nat) (W:WS) (k:Exit->aX U->Option ρ) (S:aX U) (r:ρ),sa.dy=true->nL K Γ sa F W k S=some r->
  VS P nt sa.erase (fun e A=>∃S',A=S'.st/\iU F W S S'/\k e S'=some r) S.st
 | .skip,ρ,F,W,k,S,r,hok,h=>YY ⟨S,rfl,iU.refl _ _ _,h⟩
 | .exit id,ρ,F,W,k,S,r,hok,h=>YZ ⟨S,rfl,iU.refl _ _ _,h⟩
 | .ret,ρ,F,W,k,S,r,hok,h=>acb ⟨S,rfl,iU.refl _ _ _,h⟩
 | .uC rs,ρ,F,W,k,S,r,hok,h=>by
  simp only[nL]at h;split at h
  ·rename_i ho;exact aga hΓ hok h fun S' hf hk=>⟨S',rfl,(hf.toC ho).more,hk⟩
  ·cases h
 | .sC un rs,ρ,F,W,k,S,r,hok,h=>by
  simp only[nL]at h;split at h
  ·rename_i ho;obtain⟨Γs,S',fs,h1,h2,h3,h4⟩:=u9 hΓ rs 0 _ _ hok h;split at h4
   ·rename_i hun;refine acd h1 (S':=S'.st) ?_ ⟨S',rfl,(h3.toC ho).more,h4⟩;rw[RS.yT];have e:({S.st with N:=S.st.N+rs.len}:St)=(S.more rs.len).st:=rfl
    rw[e,Rj];rw[show S.st.N=S.N from rfl,h2]
    exact Qr hun
   ·cases h4
  ·cases h
 | .seq x y,ρ,F,W,k,S,r,hok,h=>by
  simp only[SA.dy,Qm]at hok;refine Xb ((er hΓ x F W _ S r hok.1 h).mono ?_);rintro e A ⟨S',rfl,hf,hk⟩
  cases e with
  |normal=>exact(er hΓ y F W k S' r hok.2 hk).mono fun e A ⟨S'',h1,h2,h3⟩=>⟨S'',h1,hf.trans h2,h3⟩
  |exit i=>exact⟨S',rfl,hf,hk⟩
  |goto l=>exact⟨S',rfl,hf,hk⟩
  |ret=>exact⟨S',rfl,hf,hk⟩
  |panic c=>exact⟨S',rfl,hf,hk⟩
  |outgrown=>exact⟨S',rfl,hf,hk⟩
 | .join J x y,ρ,F,W,k,S,r,hok,h=>by
  simp only[SA.dy,Qm]at hok;simp only[nL]at h;split at h
  ·rename_i hchk;unfold aY at h
   have hsub:∀S',iU J.ew (some (S.N,eZ J.items)) S S'->iU F W S S':=by
    intro S' hf;simp only[tt,Qm,QH]at hchk;obtain⟨⟨⟨⟨⟨⟨hnd,hids⟩,hokv⟩,hkeep⟩,hobj⟩,hF⟩,hW⟩:=hchk;refine⟨fun t ht=>hf.env t (eo.1 (hF t ht)),fun id hid=>hf.H id ?_,hf.N⟩
    simp only[okW,Bool.or_eq_false_iff];refine⟨?_,?_⟩
    ·cases W with
     |none=>cases hW
     |some q=>
      obtain⟨n,l⟩:=q;simp only at hW;simp only[okW,Bool.or_eq_false_iff]at hid;have h1:=QG hW
      cases hb:Nat.ble S.N id with
      |false=>rfl
      |true=>have:=QG hb;rw[Nat.ble_eq_true_of_le (QK h1 this)]at hid;cases hid.1
    ·cases hb:hZ id (eZ J.items)with
     |false=>rfl
     |true=>have:=(hids id (eo.1 hb)).2;rw[hid]at this;cases this
   refine Xb ((er hΓ x J.ew _ _ S r hok.1 h).mono ?_);rintro e A ⟨S',rfl,hf,hk⟩
   cases e with
   |normal=>
    simp only at hk;split at hk
    ·rename_i v hv;refine YX (Ia hchk hv hf) ?_;exact(er hΓ y F W k _ r hok.2 hk).mono fun e A ⟨S'',h1,h2,h3⟩=>⟨S'',h1,(Mi hchk v).trans h2,h3⟩
    ·cases hk
   |exit i=>exact⟨S',rfl,hsub S' hf,hk⟩
   |goto l=>exact⟨S',rfl,hsub S' hf,hk⟩
   |ret=>exact⟨S',rfl,hsub S' hf,hk⟩
   |panic c=>exact⟨S',rfl,hsub S' hf,hk⟩
   |outgrown=>exact⟨S',rfl,hsub S' hf,hk⟩
  ·cases h
 | .cond c x y,ρ,F,W,k,S,r,hok,h=>by
  simp only[SA.dy,Qm]at hok;simp only[nL]at h;split at h
  ·rename_i b hb;have hv:c.val S.st= .bool b:=by rw[wS hok.1.1,hb];rfl
   refine Y0 hv ?_
   cases b with
   |true=>exact er hΓ x F W k S r hok.1.2 h
   |false=>exact er hΓ y F W k S r hok.2 h
  ·rename_i hb;have hv:c.val S.st= .fY:=by rw[wS hok.1.1,hb];rfl
   obtain⟨h1,h2⟩:=abY h;exact Xd hv (er hΓ x F W k S r hok.1.2 h1) (er hΓ y F W k S r hok.2 h2)
  ·cases h
 | .block id x,ρ,F,W,k,S,r,hok,h=>by
  refine Xe ((er hΓ x F W _ S r hok h).mono ?_);rintro e A ⟨S',rfl,hf,hk⟩
  cases e with
  |exit i=>
   simp only at hk;simp only[EI];split at hk
   ·rename_i hi;rw[Qr (QF hi)];exact⟨S',rfl,hf,hk⟩
   ·rename_i hi;rw[Qs (Nat.ne_of_beq_eq_false hi)];exact⟨S',rfl,hf,hk⟩
  |normal=>exact⟨S',rfl,hf,hk⟩
  |goto l=>exact⟨S',rfl,hf,hk⟩
  |ret=>exact⟨S',rfl,hf,hk⟩
  |panic c=>exact⟨S',rfl,hf,hk⟩
  |outgrown=>exact⟨S',rfl,hf,hk⟩
 | .loop J x,ρ,F,W,k,S,r,hok,h=>by
  simp only[nL]at h;split at h
  ·rename_i hchk;split at h
   ·rename_i v0 hv0
    have hsub:∀v S',iU J.ew (some (S.N,eZ J.items)) (unpack K S J v) S'->iU F W S S':=by
     intro v S' hf;have hm:=Mi (K:=K) hchk v;refine hm.trans ?_;simp only[tt,Qm,QH]at hchk;obtain⟨⟨⟨⟨⟨⟨hnd,hids⟩,hokv⟩,hkeep⟩,hobj⟩,hF⟩,hW⟩:=hchk;refine⟨fun t ht=>hf.env t (eo.1 (hF t ht)),fun id hid=>hf.H id ?_,hf.N⟩
     simp only[okW,Bool.or_eq_false_iff];refine⟨?_,?_⟩
     ·cases W with
      |none=>cases hW
      |some q=>
       obtain⟨n,l⟩:=q;simp only at hW;simp only[okW,Bool.or_eq_false_iff]at hid;have h1:=QG hW
       cases hb:Nat.ble S.N id with
       |false=>rfl
       |true=>have:=QG hb;rw[Nat.ble_eq_true_of_le (QK h1 this)]at hid;cases hid.1
     ·cases hb:hZ id (eZ J.items)with
      |false=>rfl
      |true=>have:=(hids id (eo.1 hb)).2;rw[hid]at this;cases this
    have hself:∀v S',iU J.ew (some (S.N,eZ J.items)) (unpack K S J v) S'->∀v',pack K S' J.items=some v'->∀(E:En) (a:Act) (w:World) (L:Nat->Value),Rel E S'.st a w L->∃L',Rel E (unpack K S J v').st a w L':=by
     intro v S' hf v' hv' E a w L hrel;have hc:=hchk;simp only[tt,Qm,QH]at hc;obtain⟨⟨⟨⟨⟨⟨hnd,hids⟩,hokv⟩,hkeep⟩,hobj⟩,hF⟩,hW⟩:=hc;refine⟨L,Rel.meet hchk hv' (fun t ht=>(hf.env t ht).trans ?_) (fun id hid hni=>(hf.H id ?_).trans ?_) (by have:=hf.N;rw[unpack,Ef,Pg]at this;exact this) hrel⟩
     ·have hns:hZ t (slotsOf J.items)=false:=by simpa using(hkeep t ht).2
      rcases zL (K:=K) (S.base J.ew) J.items v t with⟨⟨i,d⟩,hmem,h1,h2⟩|⟨_,h2⟩
      ·exact absurd (CQ (kv hmem) h1) (pw hns)
      ·rw[show(unpack K S J v).env t=_ from h2,Ga,Qr ht]
     ·simp only[okW,Bool.or_eq_false_iff];refine⟨?_,?_⟩
      ·cases hb:Nat.ble S.N id with
       |false=>rfl
       |true=>have:=QG hb;omega
      ·cases hb:hZ id (eZ J.items)with
       |false=>rfl
       |true=>exact absurd (eo.1 hb) hni
     ·rcases Eg (K:=K) (S.base J.ew) J.items v id hnd with⟨⟨i,d⟩,hmem,h1,h2⟩|⟨_,h2⟩
      ·exact absurd (ub (kv hmem) h1) hni
      ·rw[show(unpack K S J v).H id=_ from h2,Ph,Qr hid]
    obtain⟨n,hn⟩:=A1 h
    refine Xc (fun m A=>∃v,A=(unpack K S J v).st/\pL (fun v=>nL K Γ x J.ew (some (S.N,eZ J.items)) (fun e S'=>match e with
     | .normal=>(match pack K S' J.items with|some v=>some (Sum.inl v)|none=>none)
     |e=>(k e S').map Sum.inr) (unpack K S J v)) m v=some r) n (Ia hchk hv0 (iU.refl _ _ _)) ⟨v0,rfl,hn⟩ ?_
    rintro m A ⟨v,rfl,hm⟩
    cases m with
    |zero=>cases hm
    |succ m=>
     simp only[pL]at hm;split at hm
     ·cases hm
     ·rename_i r' hs;injection hm with hm
      subst hm;refine(er hΓ x J.ew _ _ _ _ hok hs).mono ?_;rintro e A ⟨S',rfl,hf,hk⟩
      cases e with
      |normal=>
       simp only at hk;split at hk<;>cases hk
      |exit i=>simp only[Qb]at hk;obtain⟨q,hq,e⟩:=hk;injection e with e;subst e;exact⟨S',rfl,hsub v S' hf,hq⟩
      |goto l=>simp only[Qb]at hk;obtain⟨q,hq,e⟩:=hk;injection e with e;subst e;exact⟨S',rfl,hsub v S' hf,hq⟩
      |ret=>simp only[Qb]at hk;obtain⟨q,hq,e⟩:=hk;injection e with e;subst e;exact⟨S',rfl,hsub v S' hf,hq⟩
      |panic c=>simp only[Qb]at hk;obtain⟨q,hq,e⟩:=hk;injection e with e;subst e;exact⟨S',rfl,hsub v S' hf,hq⟩
      |outgrown=>simp only[Qb]at hk;obtain⟨q,hq,e⟩:=hk;injection e with e;subst e;exact⟨S',rfl,hsub v S' hf,hq⟩
     ·rename_i v' hs;refine(er hΓ x J.ew _ _ _ _ hok hs).mono ?_;rintro e A ⟨S',rfl,hf,hk⟩
      cases e with
      |normal=>
       simp only at hk;split at hk
       ·rename_i v1 hv1;injection hk with hk
        injection hk with hk
        subst hk;exact⟨m,Nat.lt_succ_self m,_,hself v S' hf v1 hv1,v1,rfl,hm⟩
       ·cases hk
      |exit i=>simp only[Qb]at hk;obtain⟨q,hq,e⟩:=hk;cases e
      |goto l=>simp only[Qb]at hk;obtain⟨q,hq,e⟩:=hk;cases e
      |ret=>simp only[Qb]at hk;obtain⟨q,hq,e⟩:=hk;cases e
      |panic c=>simp only[Qb]at hk;obtain⟨q,hq,e⟩:=hk;cases e
      |outgrown=>simp only[Qb]at hk;obtain⟨q,hq,e⟩:=hk;cases e
   ·cases h
  ·cases h
 | .unr n x,ρ,F,W,k,S,r,hok,h=>by
  simp only[nL]at h;have⟨g,hg,h⟩:=(⟨_,rfl,h⟩:∃g,g=_/\UM g n S=some r);refine Xc (fun m A=>∃S1:aX U,A=S1.st/\iU F W S S1/\UM g m S1=some r) n (fun E a w L h=>⟨L,h⟩) ⟨S,rfl,iU.refl _ _ _,h⟩ ?_
  rintro m A ⟨S1,rfl,hf1,hm⟩
  cases m with
  |zero=>cases hm
  |succ m=>
   simp only[UM]at hm;rw[hg]at hm;simp only at hm;rw[<-hg]at hm;refine(er hΓ x F W _ S1 r hok hm).mono ?_;rintro e A ⟨S',rfl,hf,hk⟩
   cases e with
   |normal=>exact⟨m,Nat.lt_succ_self m,S'.st,fun E a w L h=>⟨L,h⟩,S',rfl,hf1.trans hf,hk⟩
   |exit i=>exact⟨S',rfl,hf1.trans hf,hk⟩
   |goto l=>exact⟨S',rfl,hf1.trans hf,hk⟩
   |ret=>exact⟨S',rfl,hf1.trans hf,hk⟩
   |panic c=>exact⟨S',rfl,hf1.trans hf,hk⟩
   |outgrown=>exact⟨S',rfl,hf1.trans hf,hk⟩
 | .back J f kk nE T tg p0 p1 x y,ρ,F,W,k,S,r,hok,h=>by
  simp only[SA.dy,Qm]at hok;simp only[nL]at h;obtain⟨D,hD⟩:∃D,SC.sP (.Ec (.tmp tg) [p0,p1] x.erase y.erase)=D:=⟨_,rfl⟩;rw[hD]at h;split at h
  ·rename_i hcond;simp only[Qm]at hcond;obtain⟨⟨⟨⟨⟨⟨hbk,hsz⟩,hnE⟩,htk⟩,hkD⟩,hFD⟩,hchk⟩:=hcond;have hsz:=QF hsz;have htk:=eo.1 htk
   have htD:tg∉D:=fun hm=>by
    have:=QH.1 hkD tg hm;rw[eo.2 htk]at this;cases this
   have hp:∀q,q=p0\/q=p1->hZ q J.ew=false:=by
    intro q hq;have hqD:q∈D:=by rw[<-hD];rcases hq with rfl|rfl<;>simp[SC.sP]
    simpa using QH.1 hkD q hqD
   split at h
   ·rename_i f' T' xs' hclo;split at h
    ·rename_i hff;have hff:=QF hff;subst hff;split at h
     ·rename_i xs hcast;obtain⟨eT,hxs⟩:=nh hcast;subst eT;simp only at hxs;subst hxs;split at h
      ·rename_i v0 hv0;obtain⟨hin,hev⟩:=adB (K:=K) hsz hnE xs;have⟨step,hstep,h⟩:=(⟨_,rfl,h⟩:∃step,step=_/\me step (fun v=>k .normal (unpack K (S.fM D) J v)) xs.reverse v0=some r)
       have hN:(S.fM D).N=S.N:=rfl;refine agc (MF hΓ hbk) hin (by rw[hD];exact htD) (fun i A=>∃v,A=(unpack K (S.fM D) J v).st/\me step (fun v=>k .normal (unpack K (S.fM D) J v)) (xs.take i).reverse v=some r) ?_ ?_ ?_ ?_
       ·rw[hD,<-E2];refine⟨_,Ia hchk hv0 (iU.refl _ _ _),v0,rfl,?_⟩;rw[QC,List.take_length];exact h
       ·rintro i A ⟨v,rfl,_⟩;show((unpack K (S.fM D) J v).env tg).pv=_;rw[SS hchk v htk];have:(S.fM D).env tg=S.env tg:=(F0 hkD none S).env tg htk;rw[this,hclo];rfl
       ·rintro m A e ⟨v,rfl,hm⟩ he;rw[QT,Qb]at he;obtain⟨a,ha,rfl⟩:=he;have hml:m<xs.length:=(Qw.1 ha).1;rw[List.take_add_one,ha,Option.toList_some,List.reverse_append]at hm;simp only[List.reverse_cons,List.reverse_nil,List.nil_append,List.singleton_append,me]at hm;rw[List.length_reverse,List.length_take,Nat.min_eq_left (Nat.le_of_lt hml)]at hm
        obtain⟨z,hz,hzr⟩:∃z,step m a v=some z/\(match z with| .inr r'=>r'=r| .inl s'=>me step (fun v=>k .normal (unpack K (S.fM D) J v)) (xs.take m).reverse s'=some r):=by
         split at hm
         ·cases hm
         ·rename_i r' hs;injection hm with hm
          exact⟨_,hs,hm⟩
         ·rename_i s' hs;exact⟨_,hs,hm⟩
        clear hm;rw[hstep]at hz;simp only at hz
        have hst:({(unpack K (S.fM D) J v).st with env:=bF (bF (unpack K (S.fM D) J v).st.env p0 (.int .i64 m)) p1 (zY nE (U.pv _ a))}:St)=aX.st {(unpack K (S.fM D) J v)with env:=gI (gI (unpack K (S.fM D) J v).env p0 (.int .i64 m)) p1 (vT K _ a)}:=by
         have henv:bF (bF (unpack K (S.fM D) J v).st.env p0 (.int .i64 m)) p1 (zY nE (U.pv _ a))=fun t=>((gI (gI (unpack K (S.fM D) J v).env p0 (.int .i64 m)) p1 (vT K _ a)) t).pv:=by
          funext t
          simp only[cz,hev];unfold bF;split
          ·rfl
          ·split
           ·rfl
           ·rfl
         exact congrArg (fun e=>({(unpack K (S.fM D) J v).st with env:=e}:St)) henv
        rw[hst]
        have hf0:iU J.ew (some (S.N,eZ J.items)) (unpack K (S.fM D) J v) {(unpack K (S.fM D) J v)with env:=gI (gI (unpack K (S.fM D) J v).env p0 (.int .i64 m)) p1 (vT K _ a)}:=by
         refine⟨fun t ht=> ?_,fun _ _=>rfl,QI _⟩
         simp only[cz];rw[cq _ _ (fun e=>by have:=hp t (.inr e);rw[eo.2 ht]at this;cases this),cq _ _ (fun e=>by have:=hp t (.inl e);rw[eo.2 ht]at this;cases this)]
        refine(er hΓ x J.ew _ _ _ _ hok.1 hz).mono ?_;rintro e A ⟨S1,rfl,hf1,hk1⟩
        cases e with
        |normal=>
         simp only at hk1;refine(er hΓ y J.ew _ _ _ _ hok.2 hk1).mono ?_;rintro e A ⟨S2,rfl,hf2,hk2⟩;have hf3:iU J.ew (some (S.N,eZ J.items)) (unpack K (S.fM D) J v) (S2.fM D):=((hf0.trans hf1).trans hf2).trans (F0 hkD _ _);have hf4:iU F W S (S2.fM D):=(F0 hFD W S).trans (VN hchk v hf3);rw[hD]
         cases e with
         |normal=>
          simp only at hk2;split at hk2
          ·rename_i v' hv';injection hk2 with hk2
           subst hk2;refine⟨_,?_,v',rfl,hzr⟩;rw[<-E2];exact abq hchk v hf3 hv'
          ·cases hk2
         |ret=>
          simp only[Qb]at hk2;obtain⟨q,hq,rfl⟩:=hk2;simp only at hzr;subst hzr;exact⟨S2.fM D,(E2 _ _).symm,hf4,hq⟩
         |exit i=>
          simp only[Qb]at hk2;obtain⟨q,hq,rfl⟩:=hk2;simp only at hzr;subst hzr;exact⟨S2.fM D,(E2 _ _).symm,hf4,hq⟩
         |goto i=>cases hk2
         |panic ch=>cases hk2
         |outgrown=>cases hk2
        |ret=>cases hk1
        |exit i=>cases hk1
        |goto i=>cases hk1
        |panic ch=>cases hk1
        |outgrown=>cases hk1
       ·rintro A ⟨v,rfl,hm⟩;simp only[List.take_zero,List.reverse_nil,me]at hm;exact⟨_,rfl,(F0 hFD W S).trans (VN hchk v (iU.refl _ _ _)),hm⟩
      ·cases h
     ·cases h
    ·cases h
   ·cases h
  ·cases h
 | .ps p x,ρ,F,W,k,S,r,hok,h=>by
  simp only[nL]at h;split at h
  ·rename_i hW;simp only[Qm]at hW;split at h
   ·rename_i S1 hp;refine YX (fun E a w L hr=>Ps.sound K hp hr) ((er hΓ x F W k S1 r hok h).mono fun e A ⟨S'',h1,h2,h3⟩=>⟨S'',h1,iU.trans ?_ h2,h3⟩)
    exact(Ps.frm hp hW.1).toC hW.2
   ·cases h
  ·cases h
 | .Gq p x,ρ,F,W,k,S,r,hok,h=>by
  refine agb (er hΓ x F W _ S r hok h) ?_;rintro e A ⟨S',rfl,hf,hk⟩
  cases e with
  |normal=>
   simp only at hk;split at hk
   ·rename_i hW;simp only[Qm]at hW;split at hk
    ·rename_i S1 hp;exact⟨S1.st,⟨S1,rfl,hf.trans ((Ps.frm hp hW.1).toC hW.2),hk⟩,fun E a w L hr=>Ps.sound K hp hr⟩
    ·cases hk
   ·cases hk
  |exit i=>exact⟨_,⟨S',rfl,hf,hk⟩,fun E a w L hr=>⟨L,hr⟩⟩
  |goto l=>exact⟨_,⟨S',rfl,hf,hk⟩,fun E a w L hr=>⟨L,hr⟩⟩
  |ret=>exact⟨_,⟨S',rfl,hf,hk⟩,fun E a w L hr=>⟨L,hr⟩⟩
  |panic c=>exact⟨_,⟨S',rfl,hf,hk⟩,fun E a w L hr=>⟨L,hr⟩⟩
  |outgrown=>exact⟨_,⟨S',rfl,hf,hk⟩,fun E a w L hr=>⟨L,hr⟩⟩
end
end Go.TQ
end
noncomputable section
namespace Go.TQ
open Go.RowKit
section
variable {P : Program} {E : En} {S : St} {a : Act} {w : World} {L : Nat -> Value} {nt : Nat}
theorem VS.post{sc:SC}{Q Q':Exit->St->Prop}{S:St}(h:VS P nt sc Q S)(hq:∀e A,Q e A->∃A',(∀(E:En) (a:Act) (w:World) (L:Nat->Value),Rel E A a w L->∃L',Rel E A' a w L')/\Q' e A'):VS P nt sc Q' S:=
 fun c hs hc E hE hk a w L hr=>wpIn_mono (h c hs hc E hE hk a w L hr) fun e a' w' ⟨S',L',h1,h2⟩=>by
  obtain⟨A',h3,h4⟩:=hq e S' h2;obtain⟨L'',h5⟩:=h3 E a' w' L' h1;exact⟨A',L'',h5,h4⟩
theorem Rel.ahW(h:Rel E S a w L){id:Nat}{cs:List PV}(hid:id<S.N)(hc:(S.H id).c= .box cs):Rel E {S with H:=bF S.H id ⟨(S.H id).ar,.box (cs.map nz)⟩} a w L:=by
 have:=(h.sO (w':=w) hid ⟨(S.H id).ar,.box (cs.map nz)⟩ (L id) (.inl ⟨rfl,rfl,by rw[hc];rfl⟩) rfl rfl rfl (QI _) (fun _ _ _=>rfl) (fun b _ hb=> .inl ⟨by rw[hc];rfl,hb⟩) (fun hs hg=>by
  obtain⟨b,cur,T,h1,h2,h3,h4⟩:=h.rN hid hc
  exact⟨b,cur,T,h1,h2,h4,(h3.mono hs hg).nz⟩)).1
 rwa [EW]at this
end
section
variable {U : TU}
def Zj(S:aX U):RV->Option (KV U)
 | .tmp t=>some (S.env t)
 | .cell t n=>(match S.env t with
  | .ptr id ar off=>(match S.sn id ar with|some cs=>Ii n (cs.drop off)|none=>none)
  |_=>none)
def Uq(S:aX U):List RV->Option (List (KV U))
 |[]=>some []
 |r::rs=>(match Zj S r with
  |some x=>(match Uq S rs with|some xs=>some (x::xs)|none=>none)
  |none=>none)
def agl:List (KV U)->KV U
 |[x]=>x
 |xs=> .dP xs
def uM(S:aX U)(rs:List RV):Option (KV U):=
 match Uq S rs with
 |some xs=>some (agl xs)
 |none=>none
theorem acw{S:aX U}{r:RV}{x:KV U}(h:Zj S r=some x):BA S.st r=some x.pv:=by
 cases r with
 |tmp t=>injection h with h;subst h;rfl
 |cell t n=>
  simp only[Zj]at h;split at h
  ·rename_i id ar off ht;split at h
   ·rename_i cs hb;obtain⟨h1,h2⟩:=vn hb;have h3:S.st.env t= .ptr id ar off:=by simp only[aX.st,ht,KV.pv]
    simp only[BA,h3];rw[Qr h1,h2];have:=Bm h;rw[List.map_drop]at this;exact this
   ·cases h
  ·cases h
theorem Vc{S:aX U}:∀{rs:List RV} {xs:List (KV U)},Uq S rs=some xs->vZ S.st rs=some (xs.map KV.pv)
 |[],xs,h=>by injection h with h;subst h;rfl
 |r::rs,xs,h=>by
  simp only[Uq]at h;split at h
  ·rename_i x hx;split at h
   ·rename_i ys hys;injection h with h
    subst h;simp only[vZ,acw hx,Vc hys,QD]
   ·cases h
  ·cases h
theorem Ed{S:aX U}{rs:List RV}{x:KV U}(h:uM S rs=some x):sw S.st rs=some x.pv:=by
 unfold uM at h;split at h
 ·rename_i xs hxs;injection h with h
  subst h;have:=Vc hxs;unfold sw;rw[this]
  match xs with
  |[]=>rfl
  |[x]=>rfl
  |x::y::l=>simp only[QD,agl,KV.pv,KV.ct]
 ·cases h
variable (K : TK U)
def B5(S:aX U)(ex:Option Nat):(r:pJ U)->KV U->Option r.den
 | .one T,x=>xc K S.lk T x
 | .many Ts,x=>(match x with| .dP xs=>UC K S.lk Ts xs|_=>none)
 | .fn a,x=>(match Nat.ble a.depth 9 with|true=>MO K S ex a x|false=>none)
variable {K}
theorem RY{S:aX U}{ex:Option Nat}(hex:∀id,ex=some id->∀e k T xs,(S.H id).c≠ .row e k T xs){r:pJ U}{x:KV U}{v:r.den}(h:B5 K S ex r x=some v):fz S.st.H ex 9 x.pv=sQ r v:=by
 cases r with
 |one T=>exact Li hex 7 h
 |many Ts=>
  simp only[B5]at h;split at h
  ·rename_i xs;rw[KV.pv,KV.ct,fz,sQ,Ww hex 6 Ts _ v h]
  ·cases h
 |fn a=>
  simp only[B5]at h;split at h
  ·rename_i hd;exact YK hex a 9 x v (QG hd) h
  ·cases h
variable (K)
def Xk(A_s:List (KV U)):aX U:=
 {env:=fun t=>(A_s[t]?).getD .undef,H:=fun _=>⟨0,.dead⟩,N:=0}
def adG(pos:Nat)(cs A_s:List (KV U)):aX U:=
 {env:=fun t=>((ik pos [KV.ptr 0 0 0] A_s)[t]?).getD .undef,H:=fun id=>(match Nat.beq id 0 with|true=>⟨0,.box cs⟩|false=>⟨0,.dead⟩),N:=1}
def Z6{ρ:Type}(ex:Option Nat)(rs:List RV)(r:pJ U)(k:aX U->r.den->Option ρ)(e:Exit)(S:aX U):Option ρ:=
 match e with
 | .ret| .normal=>(match uM S rs with
  |some x=>(match B5 K S ex r x with|some v=>k S v|none=>none)
  |none=>none)
 |_=>none
def Bj(S:aX U):List RV->Bool
 |[]=>true
 | .tmp _::l=>Bj S l
 | .cell t _::l=>(match S.env t with| .ptr id _ _=> !Nat.beq id 0|_=>false)&&Bj S l
 def YC(Γ:List (dw U))(sa:SA U)(rs:List RV)(A_s:List (et U))(r:pJ U)(a:dH A_s):Option r.den:=
 nL K Γ sa [] (some (0,[])) (Z6 K none rs r fun _ v=>some v) (Xk (uJ K A_s a))
 def rcK(Γ:List (dw U))(sa:SA U)(rs:List RV)(pos:Nat)(R:U.Ty)(A_s:List (et U))(r:pJ U)(s:U.den R)(a:dH A_s):Option (r.den×U.den R):=
 nL K Γ sa [] (some (0,[])) (Z6 K (some 0) rs r fun S v=>(match Bj S rs with
  |true=>(match S.sn 0 0 with
   |some cs=>(match K.dec R nH cs with|some s'=>some (v,s')|none=>none)
   |none=>none)
  |false=>none)) (adG pos (K.cr R s) (uJ K A_s a))
 def nwK(Γ:List (dw U))(sa:SA U)(rs:List RV)(A_s:List (et U))(R:U.Ty)(a:dH A_s):Option (U.den R):=
 nL K Γ sa [] (some (0,[])) (fun e S=>(match e with
  | .ret=>(match uM S rs with
   |some (.ptr id ar 0)=>(match S.sn id ar with|some cs=>K.dec R nH cs|none=>none)
   |_=>none)
  |_=>none)) (Xk (uJ K A_s a))
variable {K}
variable {P : Program} {nt : Nat}
theorem wA:∀(A_s:List (et U)) (a:dH A_s),(gr A_s a).length=A_s.length
 |[],_=>by rw[gr];rfl
 |_::l,a=>by rw[gr,QE,wA l a.2,QE]
theorem R4(A_s:List (et U))(a:dH A_s):(Xk (uJ K A_s a)).st=dJ 0 false [] (gr A_s a):=by
 unfold Xk aX.st dJ;congr 1
 ·funext t
  rw[<-Ad K];simp only[Qq,Qu,SY,QT];cases (uJ K A_s a)[t]?<;>rfl
theorem age(pos:Nat)(R:U.Ty)(s:U.den R)(A_s:List (et U))(a:dH A_s):(adG pos (K.cr R s) (uJ K A_s a)).st=dJ pos true (U.pv R s) (gr A_s a):=by
 unfold adG aX.st dJ;congr 1
 ·funext t
  rw[<-Ad K];simp only[Qt];have:(ik pos [PV.ptr 0 0 0] ((uJ K A_s a).map KV.pv))=(ik pos [KV.ptr 0 0 0] (uJ K A_s a)).map KV.pv:=by simp[ik,KV.pv]
  rw[this,QT];cases (ik pos [KV.ptr 0 0 0] (uJ K A_s a))[t]?<;>rfl
 ·funext id
  cases id with
  |zero=>simp only[and_self,Qt,c8.pv,dK.pv,K.qn]
  |succ id=>simp[Nat.beq,c8.pv,dK.pv]
theorem Td{ρ:Type}{ex:Option Nat}{rs:List RV}{r:pJ U}{k:aX U->r.den->Option ρ}{e:Exit}{S:aX U}{z:ρ}(h:Z6 K ex rs r k e S=some z):(e= .ret\/e= .normal)/\∃x v,uM S rs=some x/\B5 K S ex r x=some v/\k S v=some z:=by
 unfold Z6 at h
 have go:∀{o:Option ρ},o=some z->o=(match uM S rs with
  |some x=>(match B5 K S ex r x with|some v=>k S v|none=>none)
  |none=>none)->∃x v,uM S rs=some x/\B5 K S ex r x=some v/\k S v=some z:=by
  intro o ho he;rw[ho]at he;replace he:=he.symm;split at he
  ·rename_i x hx;split at he
   ·rename_i v hv;exact⟨x,v,hx,hv,he⟩
   ·cases he
  ·cases he
 split at h
 ·exact⟨.inl rfl,go h rfl⟩
 ·exact⟨.inr rfl,go h rfl⟩
 ·cases h
theorem IC{f:FuncId}{Γ:List (dw U)}{sa:SA U}{rs:List RV}{A_s:List (et U)}{r:pJ U}(hf:ib P f nt sa.erase rs)(hok:sa.dy=true)(hlen:A_s.length<=nt)(hΓ:tM P Γ){F:dH A_s->Option r.den}(hF:∀a,YC K Γ sa rs A_s r a=F a):dw.Sound P (.fn f A_s r F):=by
 refine⟨hf.enters,fun a v hv=> ?_⟩
 rw[<-hF a]at hv;refine hf.Tk (by simpa[wA]using hlen) ?_
 rw[<-R4 (K:=K)];refine(er hΓ sa [] _ _ _ _ hok hv).mono ?_;rintro e A ⟨S',rfl,_,hk⟩;obtain⟨he,x,v',h1,h2,h3⟩:=Td hk;injection h3 with h3
 subst h3
 have hret:AV rs false (fun r' cs''=>r'=sQ r v'/\(false=true->cs''=[])) S'.st:=by
  unfold AV;rw[Ed h1];exact⟨RY (fun id hid=>by cases hid) h2,fun h=>by cases h⟩
 rcases he with rfl|rfl<;>exact hret
theorem abj{S:aX U}{id ar:Nat}{cs:List (KV U)}(hb:S.sn id ar=some cs){R:U.Ty}{s:U.den R}(hd:K.dec R nH cs=some s)(hN:id<S.N):(∀(E:En) (a:Act) (w:World) (L:Nat->Value),Rel E S.st a w L->∃L',Rel E {S.st with H:=bF S.st.H id ⟨ar,.box (U.pv R s)⟩} a w L'):=by
 intro E a w L h;obtain⟨h1,h2⟩:=vn hb;have:=h.ahW hN h2;rw[h1,(tu (K.lO _ _ _ _ hd)).1]at this;exact⟨L,this⟩
theorem Wk(K:TK U)(R:U.Ty)(s:U.den R):(U.pv R s).all PV.closed=true:=QH.2 fun y hy=>gd (K.gn R s y hy)
theorem aaT{f:FuncId}{Γ:List (dw U)}{sa:SA U}{rs:List RV}{pos:Nat}{R:U.Ty}{A_s:List (et U)}{r:pJ U}(hf:ib P f nt sa.erase rs)(hok:sa.dy=true)(hlen:1+A_s.length<=nt)(hΓ:tM P Γ)
  {F:U.den R->dH A_s->Option (r.den×U.den R)} (hF:∀s a,rcK K Γ sa rs pos R A_s r s a=F s a):dw.Sound P (.rc f pos R A_s r F):=by
 refine⟨hf.enters,fun s a v s' hv=> ?_⟩
 rw[<-hF s a]at hv;refine hf.Tk (by simpa[wA]using hlen) ?_
 rw[<-age (K:=K)];refine(er hΓ sa [] _ _ _ _ hok hv).post ?_;rintro e A ⟨S',rfl,hfr,hk⟩;obtain⟨he,x,v',h1,h2,h3⟩:=Td hk;split at h3
 case h_2=>cases h3
 rename_i hnc;split at h3
 ·rename_i cs hb;split at h3
  ·rename_i s'' hd;injection h3 with h3
   injection h3 with h4 h5
   subst h4 h5;have hN:0<S'.N:=QJ (show 0<1 from Nat.one_pos) hfr.N
   refine⟨_,abj hb hd hN,?_⟩;have h6:=Ed h1
   have hres:∀rs:List RV,Bj S' rs=true->vZ {S'.st with H:=bF S'.st.H 0 ⟨0,.box (U.pv R s'')⟩} rs=vZ S'.st rs:=by
    intro rs hrs
    induction rs with
    |nil=>rfl
    |cons q rs ih=>
     cases q with
     |tmp t=>simp only[Bj]at hrs;simp only[vZ,BA,ih hrs]
     |cell t n=>
      simp only[Bj,Qm]at hrs;have h9:=hrs.1;split at h9
      ·rename_i id ar off ht;have hne:id≠0:=by intro e;subst e;simp at h9
       have h10:S'.st.env t= .ptr id ar off:=by simp only[aX.st,ht,KV.pv]
       simp only[vZ,BA,h10,cq _ _ hne,ih hrs.2]
      ·cases h9
   have hret:AV rs true (fun r' cs''=>r'=sQ r v'/\(true=true->cs''=U.pv R s'')) {S'.st with H:=bF S'.st.H 0 ⟨0,.box (U.pv R s'')⟩}:=by
    unfold AV
    have h7:sw {S'.st with H:=bF S'.st.H 0 ⟨0,.box (U.pv R s'')⟩} rs=some x.pv:=by
     rw[<-h6];unfold sw;have h8:=hres rs hnc;simp only[h8]
    rw[h7];simp only[bP];refine⟨Wk K R s'',?_,by simp⟩
    have hbx:=(Ac hb).2;rw[<-RY (K:=K) (S:=S') (ex:=some 0) (fun id hid=>by injection hid with hid;subst hid;intro e k T xs hq;rw[hbx]at hq;cases hq) h2]
    have hz:∀(n:Nat) (y:PV),fz (bF S'.st.H 0 ⟨0,.box (U.pv R s'')⟩) (some 0) n y=fz S'.st.H (some 0) n y:=by
     intro n
     induction n with
     |zero=>intro y;simp only[fz]
     |succ n ih=>
      intro y;have hu:∀id,¬(some id=some 0)->bF S'.st.H 0 ⟨0,.box (U.pv R s'')⟩ id=S'.st.H id:=fun id hid=>cq _ _ (fun e=>hid (by rw[e]))
      have hm:fz (bF S'.st.H 0 ⟨0,.box (U.pv R s'')⟩) (some 0) n=fz S'.st.H (some 0) n:=funext ih
      cases y with
      |own id ar=>
       simp only[fz,hm]
       by_cases h0:some id=some 0
       ·rw[Qr (.inl h0),Qr (.inl h0)]
       ·rw[hu id h0]
      |ptr id ar off=>
       simp only[fz,hm]
       by_cases h0:some id=some 0
       ·rw[Qr (.inl h0),Qr (.inl h0)]
       ·rw[hu id h0]
      |agg cs=>simp only[fz,hm]
      |dP cs=>simp only[fz,hm]
      |bH f cs=>simp only[fz,hm]
      |_=>simp only[fz]
    exact hz 9 x.pv
   rcases he with rfl|rfl<;>exact hret
  ·cases h3
 ·cases h3
theorem abk{f:FuncId}{Γ:List (dw U)}{sa:SA U}{t:Nat}{A_s:List (et U)}{R:U.Ty}(hf:ib P f nt sa.erase [.tmp t])(hok:sa.dy=true)(hlen:A_s.length<=nt)(hΓ:tM P Γ){F:dH A_s->Option (U.den R)}(hF:∀a,nwK K Γ sa [.tmp t] A_s R a=F a):dw.Sound P (.nw f A_s R F):=by
 refine⟨hf.enters,fun a s hv=> ?_⟩
 rw[<-hF a]at hv;refine hf.aju (by simpa[wA]using hlen) ?_
 rw[<-R4 (K:=K)];intro c hs hc E hE hkt a' w L hr;refine wpIn_mono (er hΓ sa [] _ _ _ _ hok hv c hs hc E hE hkt a' w L hr) ?_;rintro e a2 w2 ⟨A,L2,hrel,S',rfl,_,hk⟩;split at hk
 ·split at hk
  ·rename_i id ar hx;split at hk
   ·rename_i cs hb
    have hre:S'.st.env t= .ptr id ar 0:=by
     have:=Ed hx;simpa[sw,vZ,BA,KV.pv]using this
    have hN:id<S'.N:=by
     have:=hrel.env t;rw[hre]at this;exact(this.rZ (show(S'.st.gh L2).V id=ar from(vn hb).1)).1
    obtain⟨L3,h3⟩:=abj hb hk hN E a2 w2 L2 hrel;refine⟨_,L3,h3,?_⟩
    have h7:sw {S'.st with H:=bF S'.st.H id ⟨ar,.box (U.pv R s)⟩} [.tmp t]=some (.ptr id ar 0):=by
     simp only[sw,vZ,BA];rw[hre]
    simp only[VH];rw[h7];simp only[bP,Qt];exact⟨Wk K R s,trivial⟩
   ·cases hk
  ·cases hk
 ·cases hk
def aay(e k:Nat)(T:U.Ty)(xs:List (U.den T))(A_s:List (KV U)):aX U:=
 {env:=fun t=>(((KV.own 0 0)::A_s)[t]?).getD .undef,H:=fun id=>(match Nat.beq id 0 with|true=>⟨0,.row e k T xs⟩|false=>⟨0,.dead⟩),N:=1}
theorem Y1(e k:Nat)(T:U.Ty)(xs:List (U.den T))(A_s:List (et U))(a:dH A_s):(aay e k T xs (uJ K A_s a)).st=rj e k (xs.map (U.pv T)) (gr A_s a):=by
 unfold aay aX.st rj;congr 1
 ·funext t
  rw[<-Ad K]
  cases t with
  |zero=>rfl
  |succ t=>
   simp only[List.getElem?_cons_succ,QT];cases (uJ K A_s a)[t]?<;>rfl
 ·funext id
  cases id with
  |zero=>simp[c8.pv,dK.pv]
  |succ id=>simp[Nat.beq,c8.pv,dK.pv]
variable (K)
def rowAt(S:aX U)(id ar e k:Nat)(T:U.Ty):Option (List (U.den T)):=
 match S.row? id ar with
 |some r=>(match Nat.beq r.e e&&Nat.beq r.k k with|true=>zB r.T T r.xs|false=>none)
 |none=>none
theorem NU{S:aX U}{id ar e k:Nat}{T:U.Ty}{xs:List (U.den T)}(h:rowAt S id ar e k T=some xs):(S.H id).ar=ar/\(S.H id).c= .row e k T xs:=by
 unfold rowAt at h;split at h
 ·rename_i r hr;obtain⟨h1,h2⟩:=CJ hr;split at h
  ·rename_i hek;rw[Qm]at hek;obtain⟨eT,rfl⟩:=nh h;obtain⟨re,rk,rT,rxs⟩:=r;simp only at eT h2 hek;subst eT;exact⟨h1,by rw[h2,QF hek.1,QF hek.2]⟩
  ·cases h
 ·cases h
def adg{ρ:Type}(rs:List RV)(r:pJ U)(e k:Nat)(T:U.Ty)(j:r.den->List (U.den T)->Option ρ)(en:Exit)(S:aX U):Option ρ:=
 match en with
 | .ret| .normal=>(match uM S rs with
  |some x=>(match B5 K (S.DA 0 0) (some 0) r x with
   |some v=>(match rowAt S 0 0 e k T with|some ys=>j v ys|none=>none)
   |none=>none)
  |none=>none)
 |_=>none
def Z7{ρ:Type}(rs:List RV)(e k:Nat)(T:U.Ty)(j:List (U.den T)->Option ρ)(en:Exit)(S:aX U):Option ρ:=
 match en with
 | .ret| .normal=>(match uM S rs with
  |some (.own id ar)=>(match rowAt S id ar e k T with|some ys=>j ys|none=>none)
  |_=>none)
 |_=>none
 def rwK(Γ:List (dw U))(sa:SA U)(rs:List RV)(e k:Nat)(T:U.Ty)(A_s:List (et U))(r:pJ U)(xs:List (U.den T))(a:dH A_s):Option (r.den×List (U.den T)):=
 nL K Γ sa [] (some (0,[])) (adg K rs r e k T fun v ys=>some (v,ys)) (aay e k T xs (uJ K A_s a))
 def cwK(Γ:List (dw U))(sa:SA U)(rs:List RV)(e k:Nat)(T:U.Ty)(A_s:List (et U))(xs:List (U.den T))(a:dH A_s):Option (List (U.den T)):=
 nL K Γ sa [] (some (0,[])) (Z7 rs e k T fun ys=>some ys) (aay e k T xs (uJ K A_s a))
 def fwK(Γ:List (dw U))(sa:SA U)(rs:List RV)(A_s:List (et U))(e k:Nat)(T:U.Ty)(a:dH A_s):Option (List (U.den T)):=
 nL K Γ sa [] (some (0,[])) (Z7 rs e k T fun ys=>some ys) (Xk (uJ K A_s a))
variable {K}
theorem abJ{ρ:Type}{rs:List RV}{r:pJ U}{e k:Nat}{T:U.Ty}{j:r.den->List (U.den T)->Option ρ}{en:Exit}{S:aX U}{z:ρ}(h:adg K rs r e k T j en S=some z):
  (en= .ret\/en= .normal)/\∃x v ys,uM S rs=some x/\B5 K (S.DA 0 0) (some 0) r x=some v/\(S.H 0).ar=0/\(S.H 0).c= .row e k T ys/\j v ys=some z:=by
 have go:(match uM S rs with
  |some x=>(match B5 K (S.DA 0 0) (some 0) r x with
   |some v=>(match rowAt S 0 0 e k T with|some ys=>j v ys|none=>none)
   |none=>none)
  |none=>none)=some z->∃x v ys,uM S rs=some x/\B5 K (S.DA 0 0) (some 0) r x=some v/\(S.H 0).ar=0/\(S.H 0).c= .row e k T ys/\j v ys=some z:=by
  intro he;split at he
  ·rename_i x hx;split at he
   ·rename_i v hv;split at he
    ·rename_i ys hys;obtain⟨h1,h2⟩:=NU hys;exact⟨x,v,ys,hx,hv,h1,h2,he⟩
    ·cases he
   ·cases he
  ·cases he
 unfold adg at h;split at h
 ·exact⟨.inl rfl,go h⟩
 ·exact⟨.inr rfl,go h⟩
 ·cases h
theorem Te{ρ:Type}{rs:List RV}{e k:Nat}{T:U.Ty}{j:List (U.den T)->Option ρ}{en:Exit}{S:aX U}{z:ρ}(h:Z7 rs e k T j en S=some z):
  (en= .ret\/en= .normal)/\∃id ar ys,uM S rs=some (.own id ar)/\(S.H id).ar=ar/\(S.H id).c= .row e k T ys/\j ys=some z:=by
 have go:(match uM S rs with
  |some (.own id ar)=>(match rowAt S id ar e k T with|some ys=>j ys|none=>none)
  |_=>none)=some z->∃id ar ys,uM S rs=some (.own id ar)/\(S.H id).ar=ar/\(S.H id).c= .row e k T ys/\j ys=some z:=by
  intro he;split at he
  ·rename_i id ar hx;split at he
   ·rename_i ys hys;obtain⟨h1,h2⟩:=NU hys;exact⟨id,ar,ys,hx,h1,h2,he⟩
   ·cases he
  ·cases he
 unfold Z7 at h;split at h
 ·exact⟨.inl rfl,go h⟩
 ·exact⟨.inr rfl,go h⟩
 ·cases h
theorem Sk{f:FuncId}{Γ:List (dw U)}{sa:SA U}{rs:List RV}{e k:Nat}{T:U.Ty}{A_s:List (et U)}{r:pJ U}(hf:ib P f nt sa.erase rs)(hok:sa.dy=true)(hlen:1+A_s.length<=nt)(hΓ:tM P Γ)
  {F:List (U.den T)->dH A_s->Option (r.den×List (U.den T))} (hF:∀xs a,rwK K Γ sa rs e k T A_s r xs a=F xs a):dw.Sound P (.rw f e k T A_s r F):=by
 refine⟨hf.enters,fun xs a v ys hv=> ?_⟩
 rw[<-hF xs a]at hv;refine hf.ajt (by simpa[wA]using hlen) ?_
 rw[<-Y1 (K:=K)];refine(er hΓ sa [] _ _ _ _ hok hv).mono ?_;rintro en A ⟨S',rfl,_,hk⟩;obtain⟨he,x,v',ys',h1,h2,h3,h4,h5⟩:=abJ hk;injection h5 with h5
 injection h5 with h6 h7
 subst h6 h7
 have hH:S'.st.H 0=⟨0,.row e k (ys'.map (U.pv T))⟩:=by
  simp only[aX.st,c8.pv,h3,h4,dK.pv]
 have hret:Rk rs e k (fun r' es''=>r'=sQ r v'/\es''=ys'.map (U.pv T)) .ret S'.st:=by
  simp only[Rk];rw[Ed h1];simp only[hH];refine⟨trivial,trivial,wb K T ys',?_,trivial⟩;rw[<-RY (K:=K) (MD S' 0 0) h2,RP]
 rcases he with rfl|rfl<;>exact hret
theorem Wr{rs:List RV}{e k:Nat}{T:U.Ty}{S':aX U}{id ar:Nat}{ys:List (U.den T)}(h1:uM S' rs=some (.own id ar))(h2:(S'.H id).ar=ar)(h3:(S'.H id).c= .row e k T ys)(K:TK U):Dj rs e k (fun es''=>es''=ys.map (U.pv T)) .ret S'.st:=by
 simp only[Dj];rw[Ed h1];simp only[KV.pv];refine⟨h2,?_⟩;have:(S'.st.H id).c= .row e k (ys.map (U.pv T)):=by simp only[aX.st,c8.pv,h3,dK.pv]
 rw[this];exact⟨rfl,rfl,wb K T ys,rfl⟩
theorem abM{f:FuncId}{Γ:List (dw U)}{sa:SA U}{rs:List RV}{e k:Nat}{T:U.Ty}{A_s:List (et U)}(hf:ib P f nt sa.erase rs)(hok:sa.dy=true)(hlen:1+A_s.length<=nt)(hΓ:tM P Γ)
  {F:List (U.den T)->dH A_s->Option (List (U.den T))} (hF:∀xs a,cwK K Γ sa rs e k T A_s xs a=F xs a):dw.Sound P (.cw f e k T A_s F):=by
 refine⟨hf.enters,fun xs a ys hv=> ?_⟩
 rw[<-hF xs a]at hv;refine hf.ajw (by simpa[wA]using hlen) ?_
 rw[<-Y1 (K:=K)];refine(er hΓ sa [] _ _ _ _ hok hv).mono ?_;rintro en A ⟨S',rfl,_,hk⟩;obtain⟨he,id,ar,ys',h1,h2,h3,h5⟩:=Te hk;injection h5 with h5
 subst h5;have hret:=Wr h1 h2 h3 K;rcases he with rfl|rfl<;>exact hret
theorem abD{f:FuncId}{Γ:List (dw U)}{sa:SA U}{rs:List RV}{e k:Nat}{T:U.Ty}{A_s:List (et U)}(hf:ib P f nt sa.erase rs)(hok:sa.dy=true)(hlen:A_s.length<=nt)(hΓ:tM P Γ)
  {F:dH A_s->Option (List (U.den T))} (hF:∀a,fwK K Γ sa rs A_s e k T a=F a):dw.Sound P (.fw f A_s e k T F):=by
 refine⟨hf.enters,fun a ys hv=> ?_⟩
 rw[<-hF a]at hv;refine hf.ajv (by simpa[wA]using hlen) ?_
 rw[<-R4 (K:=K)];refine(er hΓ sa [] _ _ _ _ hok hv).mono ?_;rintro en A ⟨S',rfl,_,hk⟩;obtain⟨he,id,ar,ys',h1,h2,h3,h5⟩:=Te hk;injection h5 with h5
 subst h5;have hret:=Wr h1 h2 h3 K;rcases he with rfl|rfl<;>exact hret
end
end Go.TQ
end
noncomputable section
namespace Go.TQ
def op{U:TU}(d:Nat)(x:bN)(r:RS U):RS U:= .op ⟨some d,none,x⟩ r
def opg{U:TU}(d t:Nat)(b:Bool)(x:bN)(r:RS U):RS U:= .op ⟨some d,some (t,b),x⟩ r
def ops{U:TU}(x:bN)(r:RS U):RS U:= .op ⟨none,none,x⟩ r
def tm(t:Nat):bm:= .tmp t
def ci(n:Int):bm:= .wW (.int .i64 n)
def mv{U:TU}(d t:Nat)(r:RS U):RS U:=op d (.mM (tm t)) r
def mc{U:TU}(d:Nat)(n:Int)(r:RS U):RS U:=op d (.mM (ci n)) r
def ld{U:TU}(d t:Nat)(r:RS U):RS U:=op d (.load none (tm t)) r
def ldk{U:TU}(d k t:Nat)(r:RS U):RS U:=op d (.load (some k) (tm t)) r
def fa{U:TU}(d o t:Nat)(r:RS U):RS U:=op d (.xT o (tm t)) r
def ia{U:TU}(d k a b:Nat)(r:RS U):RS U:=op d (.pM k (tm a) (tm b)) r
def cl{U:TU}(d f:Nat)(l:List Nat)(r:RS U):RS U:=op d (.call f (l.map tm)) r
def sr{U:TU}(x:RS U)(c:SA U):SA U:= .seq (.uC x) c
def aB(k:IntKind)(a b:Int):Int:=k.wrap (a+b)
def da(k:IntKind)(a b:Int):Int:=k.wrap (a - b)
def si(k:IntKind)(a b:Int):Int:=k.wrap (a*b)
def Vo(k:IntKind)(a b:Int):Int:=k.wrap (a.tdiv b)
def Zk(_:IntKind)(a b:Int):Int:=a.tmod b
def DL(k:IntKind)(a b:Int):Int:=k.wrap ((BitVec.ofInt k.bits a&&&BitVec.ofInt k.bits b).toNat)
def oJ(k:IntKind)(a b:Int):Int:=k.wrap ((BitVec.ofInt k.bits a|||BitVec.ofInt k.bits b).toNat)
def dq(k:IntKind)(a b:Int):Int:=k.wrap ((BitVec.ofInt k.bits a^^^BitVec.ofInt k.bits b).toNat)
def y9(k:IntKind)(a b:Int):Int:=k.wrap ((BitVec.ofInt k.bits a&&& ~~~ BitVec.ofInt k.bits b).toNat)
def bV(k:IntKind)(a b:Int):Int:=k.wrap (a*2 ^ (min b.toNat k.bits))
def nc(k:IntKind)(a b:Int):Int:=a.fdiv (2 ^ (min b.toNat k.bits))
def bK(k:IntKind)(n:Int):Int:=k.wrap n
def dC(a b:Int):Int:=if b<a then b else a
def bC(a b:Int):Int:=if b>a then b else a
def kQ(neg:Bool)(a b:Int)(s t:ByteArray):Bool:=xor neg (decide (a=b)&&decide (s=t))
def iR{A R:Type}(B:(A->Option R)->A->Option R):Nat->A->Option R
 |0,_=>none
 |n+1,a=>B (iR B n) a
def Ez{A C R:Type}(B:(A->C->Option R)->A->C->Option R):Nat->A->C->Option R
 |0,_,_=>none
 |n+1,a,c=>B (Ez B n) a c
section
variable {U : TU}
inductive RN (U:TU) where
 |ps (p:Ps U)
 |Ax (t:Nat)
def acn(t:Nat):List SG->Option (List SG×SG×List SG)
 |[]=>none
 |o::r=>(match o.op with
  | .pick (.tmp t') _ _=>(match Nat.beq t t' with
   |true=>some ([],o,r)
   |false=>(match acn t r with|some (b,q,r')=>some (o::b,q,r')|none=>none))
  |_=>(match acn t r with|some (b,q,r')=>some (o::b,q,r')|none=>none))
def before(n:Nat):List (Nat×RN U)->List (Nat×RN U)
 |[]=>[]
 |(j,x)::l=>(match Nat.ble n j with|true=>[]|false=>(j,x)::before n l)
def after(n:Nat):List (Nat×RN U)->List (Nat×RN U)
 |[]=>[]
 |(j,x)::l=>(match Nat.ble n j with|true=>(j,x)::l|false=>after n l)
def yJ(sC:Bool):Nat->List Nat->Nat->List SG->List (Nat×RN U)->RS U
 |0,_,_,_,_=> .nil
 |f+1,kn,i,[],ns=>(match ns with
  |(_,.ps p)::ns'=> .ps p (yJ sC f kn i [] ns')
  |(_,.Ax t)::ns'=> .Ax t (yJ sC f (t::kn) i [] ns')
  |[]=> .nil)
 |f+1,kn,i,o::r,ns=>(match(match ns with|(j,_)::_=>Nat.beq j i|[]=>false)with
  |true=>(match ns with
   |(_,.ps p)::ns'=> .ps p (yJ sC f kn i (o::r) ns')
   |(_,.Ax t)::ns'=> .Ax t (yJ sC f (t::kn) i (o::r) ns')
   |[]=> .nil)
  |false=>(match o.g with
   |none=> .op o (yJ sC f kn (Nat.succ i) r ns)
   |some (t,w)=>(match hZ t kn with
    |true=> .op o (yJ sC f kn (Nat.succ i) r ns)
    |false=>(match sC with
     |true=> .Ax t (yJ sC f (t::kn) i (o::r) ns)
     |false=>(match acn t (o::r)with
      |some (b,q,r')=>(match q.op with
       | .pick _ x y=> .ite t w (yJ sC f (t::kn) i b (before (Nat.add i b.length) ns)) (q.d.getD 0) q.g x y (yJ sC f kn (Nat.succ (Nat.add i b.length)) r' (after (Nat.add i b.length) ns))
       |_=> .nil)
      |none=> .nil)))))
inductive NT (U:TU) where
 |e
 |l (x:NT U)
 |r (x:NT U)
 |b (x y:NT U)
 |ps (p:Ps U) (x:NT U)
 |Gq (p:Ps U) (x:NT U)
 |j (J:JS U) (x:NT U)
 |u (n:Nat) (x:NT U)
 |k (J:JS U) (f k:Nat) (nE:Option Nat) (T:U.Ty) (x:NT U)
 |g (ns:List (Nat×RN U))
def NT.lt:NT U->NT U
 | .l x=>x
 | .b x _=>x
 | .j _ x=>x.lt
 | .k _ _ _ _ _ x=>x.lt
 | .ps _ x=>x.lt
 | .Gq _ x=>x.lt
 |_=> .e
def NT.rt:NT U->NT U
 | .r x=>x
 | .b _ x=>x
 | .j _ x=>x.rt
 | .k _ _ _ _ _ x=>x.rt
 | .ps _ x=>x.rt
 | .Gq _ x=>x.rt
 |_=> .e
def NT.wrap:NT U->SA U->SA U
 | .ps p x,s=> .ps p (x.wrap s)
 | .Gq p x,s=> .Gq p (x.wrap s)
 |_,s=>s
def NT.core:NT U->NT U
 | .ps _ x=>x.core
 | .Gq _ x=>x.core
 |x=>x
def aD:SC->NT U->SA U
 | .skip,t=>t.wrap .skip
 | .uC ops,t=>t.wrap (.uC (match t.core with| .g ns=>yJ false 4000 [] 0 ops ns|_=>yJ false 4000 [] 0 ops []))
 | .sC un ops,t=>t.wrap (.sC un (match t.core with| .g ns=>yJ true 4000 [] 0 ops ns|_=>yJ true 4000 [] 0 ops []))
 | .seq x y,t=>t.wrap (match t.core with
  | .j J u=> .join J (aD x u.lt) (aD y u.rt)
  |u=> .seq (aD x u.lt) (aD y u.rt))
 | .cond c x y,t=>t.wrap (.cond c (aD x t.lt) (aD y t.rt))
 | .block id x,t=>t.wrap (.block id (aD x t.lt))
 | .loop x,t=>t.wrap (match t.core with
  | .j J u=> .loop J (aD x u.lt)
  | .u n t=> .unr n (aD x t.lt)
  |_=> .loop ⟨[],[]⟩ (aD x t.lt))
 | .Ec g ps x y,t=>t.wrap (match t.core with
  | .k J f k nE T u=>(match g with
   | .tmp tg=> .back J f k nE T tg (ps.headD 0) (ps.tail.headD 0) (aD x u.lt) (aD y u.rt)
   |_=> .skip)
  |_=> .skip)
 | .exit id,t=>t.wrap (.exit id)
 | .ret,t=>t.wrap .ret
def aE(P:Program)(nt:Nat)(hs:List Nat)(fn:Func):SC:=(fn.body.bind (aK P nt hs)).getD .skip
end
section
variable {U : TU} {P : Program}
structure KS (U:TU) (P:Program) where
 k:dw U
 s:k.Sound P
def KS.ks:List (KS U P)->List (dw U)
 |[]=>[]
 |x::l=>x.k::KS.ks l
theorem KS.all:∀l:List (KS U P),tM P (KS.ks l)
 |[]=>trivial
 |x::l=>⟨x.s,KS.all l⟩
variable {K : TK U} {f : FuncId} {A_s : List (et U)} {r : pJ U} {e k : Nat} {T R : U.Ty}
theorem fk{f nt:Nat}{c:SC}{rs:List RV}(fn:Func)(hs:List Nat)(hf:P.funcs[f]?=some fn)(h0:fn.ntmps=nt:=by rfl)(h1:(fn.body.bind (aK P nt hs))=some c:=by kernel_rfl)(h2:oo P fn.results.toList=some rs:=by kernel_rfl)(h3:(fn.name== "runtime.NumGoroutine")=false:=by kernel_rfl):ib P f nt c rs:=⟨fn,hs,hf,h0,h1,h2,h3⟩
theorem aP(sa:SA U)(nt:Nat)(rs:List RV)(G:List (KS U P))(hf:ib P f nt sa.erase rs)(hok:sa.dy=true:=by kernel_rfl)(hlen:A_s.length<=nt:=by decide){F:dH A_s->Option r.den}(hF:YC K (KS.ks G) sa rs A_s r=F:=by kernel_rfl):dw.Sound P (.fn f A_s r F):=
 IC hf hok hlen (KS.all G) fun a=>congrFun hF a
theorem wP{pos:Nat}(sa:SA U)(nt:Nat)(rs:List RV)(G:List (KS U P))(hf:ib P f nt sa.erase rs)(hok:sa.dy=true:=by kernel_rfl)(hlen:1+A_s.length<=nt:=by decide){F:U.den R->dH A_s->Option (r.den×U.den R)}(hF:rcK K (KS.ks G) sa rs pos R A_s r=F:=by kernel_rfl):dw.Sound P (.rc f pos R A_s r F):=
 aaT hf hok hlen (KS.all G) fun s a=>congrFun (congrFun hF s) a
theorem roS{pos:Nat}{F:U.den R->dH A_s->Option (r.den×U.den R)}(h:dw.Sound P (.rc f pos R A_s r F))(hs:∀s a q,F s a=some q->q.2=s):dw.Sound P (.ro f pos R A_s r F):=
 ⟨h.1,fun s a v s' hv=>⟨hs s a _ hv,h.2 s a v s' hv⟩⟩
theorem nwS(sa:SA U)(nt t:Nat)(G:List (KS U P))(hf:ib P f nt sa.erase [.tmp t])(hok:sa.dy=true:=by kernel_rfl)(hlen:A_s.length<=nt:=by decide){F:dH A_s->Option (U.den R)}(hF:nwK K (KS.ks G) sa [.tmp t] A_s R=F:=by kernel_rfl):dw.Sound P (.nw f A_s R F):=
 abk hf hok hlen (KS.all G) fun a=>congrFun hF a
theorem rwS(sa:SA U)(nt:Nat)(rs:List RV)(G:List (KS U P))(hf:ib P f nt sa.erase rs)(hok:sa.dy=true:=by kernel_rfl)(hlen:1+A_s.length<=nt:=by decide){F:List (U.den T)->dH A_s->Option (r.den×List (U.den T))}(hF:rwK K (KS.ks G) sa rs e k T A_s r=F:=by kernel_rfl):dw.Sound P (.rw f e k T A_s r F):=
 Sk hf hok hlen (KS.all G) fun s a=>congrFun (congrFun hF s) a
theorem WA(sa:SA U)(nt:Nat)(rs:List RV)(G:List (KS U P))(hf:ib P f nt sa.erase rs)(hok:sa.dy=true:=by kernel_rfl)(hlen:1+A_s.length<=nt:=by decide){F:List (U.den T)->dH A_s->Option (List (U.den T))}(hF:cwK K (KS.ks G) sa rs e k T A_s=F:=by kernel_rfl):dw.Sound P (.cw f e k T A_s F):=
 abM hf hok hlen (KS.all G) fun s a=>congrFun (congrFun hF s) a
theorem fwS(sa:SA U)(nt:Nat)(rs:List RV)(G:List (KS U P))(hf:ib P f nt sa.erase rs)(hok:sa.dy=true:=by kernel_rfl)(hlen:A_s.length<=nt:=by decide){F:dH A_s->Option (List (U.den T))}(hF:fwK K (KS.ks G) sa rs A_s e k T=F:=by kernel_rfl):dw.Sound P (.fw f A_s e k T F):=
 abD hf hok hlen (KS.all G) fun a=>congrFun hF a
theorem fnR(sa:SA U)(nt:Nat)(rs:List RV)(G:List (KS U P))(hf:ib P f nt sa.erase rs)(hok:sa.dy=true:=by kernel_rfl)(hlen:A_s.length<=nt:=by decide){B:(dH A_s->Option r.den)->dH A_s->Option r.den}(hB:(fun g=>YC K (.fn f A_s r g::KS.ks G) sa rs A_s r)=B):∀n,dw.Sound P (.fn f A_s r (iR B n))
 |0=>⟨hf.enters,fun a r h=>by cases h⟩
 |n+1=>IC (K:=K) (Γ:= .fn f A_s r (iR B n)::KS.ks G) (F:=iR B (n+1)) hf hok hlen ⟨fnR sa nt rs G hf hok hlen hB n,KS.all G⟩ fun a=>congrFun (congrFun hB (iR B n)) a
theorem xQ(sa:SA U)(nt:Nat)(rs:List RV)(G:List (KS U P))(hf:ib P f nt sa.erase rs)(hok:sa.dy=true:=by kernel_rfl)(hlen:A_s.length<=nt:=by decide){B:(dH A_s->Option r.den)->dH A_s->Option r.den}(hB:(fun g=>YC K (.fn f A_s r g::KS.ks G) sa rs A_s r)=B:=by kernel_rfl){F:dH A_s->Option r.den}(hF:∀a,∃n,F a=iR B n a):dw.Sound P (.fn f A_s r F):=
 ⟨hf.enters,fun a r h=>by
  obtain⟨n,hn⟩:=hF a;rw[hn]at h
  exact(fnR sa nt rs G hf hok hlen hB n).2 a r h⟩
theorem ZX(sa:SA U)(nt:Nat)(rs:List RV)(G:(g:dH A_s->Option r.den)->dw.Sound P (.fn f A_s r g)->List (KS U P))(hf:ib P f nt sa.erase rs)(hok:sa.dy=true:=by kernel_rfl)(hlen:A_s.length<=nt:=by decide){B:(dH A_s->Option r.den)->dH A_s->Option r.den}(hB:(fun g h=>YC K (.fn f A_s r g::KS.ks (G g h)) sa rs A_s r)=fun g _=>B g):∀n,dw.Sound P (.fn f A_s r (iR B n))
 |0=>⟨hf.enters,fun a r h=>by cases h⟩
 |n+1=>IC (K:=K) (Γ:= .fn f A_s r (iR B n)::KS.ks (G (iR B n) (ZX sa nt rs G hf hok hlen hB n))) (F:=iR B (n+1)) hf hok hlen ⟨ZX sa nt rs G hf hok hlen hB n,KS.all _⟩ fun a=>congrFun (congrFun (congrFun hB (iR B n)) (ZX sa nt rs G hf hok hlen hB n)) a
theorem aif(sa:SA U)(nt:Nat)(rs:List RV)(G:(g:dH A_s->Option r.den)->dw.Sound P (.fn f A_s r g)->List (KS U P))(hf:ib P f nt sa.erase rs)(hok:sa.dy=true:=by kernel_rfl)(hlen:A_s.length<=nt:=by decide){B:(dH A_s->Option r.den)->dH A_s->Option r.den}(hB:(fun g h=>YC K (.fn f A_s r g::KS.ks (G g h)) sa rs A_s r)=(fun g _=>B g):=by kernel_rfl){F:dH A_s->Option r.den}(hF:∀a,∃n,F a=iR B n a):dw.Sound P (.fn f A_s r F):=
 ⟨hf.enters,fun a r h=>by
  obtain⟨n,hn⟩:=hF a;rw[hn]at h
  exact(ZX sa nt rs G hf hok hlen hB n).2 a r h⟩
theorem rwR(sa:SA U)(nt:Nat)(rs:List RV)(G:List (KS U P))(hf:ib P f nt sa.erase rs)(hok:sa.dy=true:=by kernel_rfl)(hlen:1+A_s.length<=nt:=by decide){B:(List (U.den T)->dH A_s->Option (r.den×List (U.den T)))->List (U.den T)->dH A_s->Option (r.den×List (U.den T))}(hB:(fun g=>rwK K (.rw f e k T A_s r g::KS.ks G) sa rs e k T A_s r)=B):∀n,dw.Sound P (.rw f e k T A_s r (Ez B n))
 |0=>⟨hf.enters,fun s a r ys h=>by cases h⟩
 |n+1=>Sk (K:=K) (Γ:= .rw f e k T A_s r (Ez B n)::KS.ks G) (F:=Ez B (n+1)) hf hok hlen ⟨rwR sa nt rs G hf hok hlen hB n,KS.all G⟩ fun s a=>congrFun (congrFun (congrFun hB (Ez B n)) s) a
theorem ajR(sa:SA U)(nt:Nat)(rs:List RV)(G:List (KS U P))(hf:ib P f nt sa.erase rs)(hok:sa.dy=true:=by kernel_rfl)(hlen:1+A_s.length<=nt:=by decide){B:(List (U.den T)->dH A_s->Option (r.den×List (U.den T)))->List (U.den T)->dH A_s->Option (r.den×List (U.den T))}(hB:(fun g=>rwK K (.rw f e k T A_s r g::KS.ks G) sa rs e k T A_s r)=B:=by kernel_rfl){F:List (U.den T)->dH A_s->Option (r.den×List (U.den T))}(hF:∀s a,∃n,F s a=Ez B n s a):dw.Sound P (.rw f e k T A_s r F):=
 ⟨hf.enters,fun s a r ys h=>by
  obtain⟨n,hn⟩:=hF s a;rw[hn]at h
  exact(rwR sa nt rs G hf hok hlen hB n).2 s a r ys h⟩
end
end Go.TQ
end
noncomputable section
namespace Go.TQ
structure aj where
 aL:Int
 ba:(List Int)
 aN:(List aj)
theorem aj.eta(x:aj):aj.mk x.aL x.ba x.aN=x:=by cases x;rfl
@[reducible] def ae (x:aj):aj:=aj.mk x.aL x.ba x.aN
structure ay where
 au:Int
 aI:Int
 aa:aj
 cu:(List ByteArray)
 bj:(List ByteArray)
@[simp] theorem ay.eta (x:ay):ay.mk x.au x.aI x.aa x.cu x.bj=x:=rfl
structure ax where
 au:Int
 aT:Int
 Round:Int
 aI:Int
 aa:aj
 nO:ByteArray
 cu:(List ByteArray)
 bj:(List ByteArray)
 bR:(List ByteArray)
 aA:(List ay)
@[simp] theorem ax.eta (x:ax):ax.mk x.au x.aT x.Round x.aI x.aa x.nO x.cu x.bj x.bR x.aA=x:=rfl
structure ab where
 an:Int
 Value:ByteArray
@[simp] theorem ab.eta (x:ab):ab.mk x.an x.Value=x:=rfl
structure al where
 au:Int
 aT:Int
 aI:Int
 aa:aj
 bD:Int
 af:ab
 ao:ab
 az:ab
 aQ:Int
 bb:Int
@[simp] theorem al.eta (x:al):al.mk x.au x.aT x.aI x.aa x.bD x.af x.ao x.az x.aQ x.bb=x:=rfl
structure ak where
 au:Int
 aT:Int
 aI:Int
 aa:aj
 aJ:Int
 af:ab
 ao:ab
 az:ab
 av:ab
 aQ:Int
 bb:Int
 bh:ByteArray
 aA:(List al)
@[simp] theorem ak.eta (x:ak):ak.mk x.au x.aT x.aI x.aa x.aJ x.af x.ao x.az x.av x.aQ x.bb x.bh x.aA=x:=rfl
structure dz where
 an:Int
 C6:Int
@[simp] theorem dz.eta (x:dz):dz.mk x.an x.C6=x:=rfl
structure bI where
 aq:ax
 ai:ak
 Timer:dz
 Round:Int
 Next:Int
 nZ:Bool
 Value:ByteArray
@[simp] theorem bI.eta (x:bI):bI.mk x.aq x.ai x.Timer x.Round x.Next x.nZ x.Value=x:=rfl
structure jt where
 bD:Int
 aT:Int
 br:ay
 aw:al
@[simp] theorem jt.eta (x:jt):jt.mk x.bD x.aT x.br x.aw=x:=rfl
structure dm where
 L:(List Int)
 At:Int
@[simp] theorem dm.eta (x:dm):dm.mk x.L x.At=x:=rfl
structure aH where
 ai:ak
@[simp] theorem aH.eta (x:aH):aH.mk x.ai=x:=rfl
structure aR where
 dG:Bool
 aa:aj
@[simp] theorem aR.eta (x:aR):aR.mk x.dG x.aa=x:=rfl
structure aZ where
 bl:(List aR)
@[simp] theorem aZ.eta (x:aZ):aZ.mk x.bl=x:=rfl
structure bE where
 aw:al
@[simp] theorem bE.eta (x:bE):bE.mk x.aw=x:=rfl
structure gg where
 au:Int
 View:aZ
 aA:(List bE)
@[simp] theorem gg.eta (x:gg):gg.mk x.au x.View x.aA=x:=rfl
structure gz where
 ri:Int
 Value:Int
@[simp] theorem gz.eta (x:gz):gz.mk x.ri x.Value=x:=rfl
structure eG where
 au:Int
 aI:Int
 aa:aj
 cu:(List gz)
 bj:(List gz)
@[simp] theorem eG.eta (x:eG):eG.mk x.au x.aI x.aa x.cu x.bj=x:=rfl
structure Gg where
 aS:Int
 low:Int
 bS:Int
 aM:ab
 ed:ab
 bU:ab
 dM:ab
@[simp] theorem Gg.eta (x:Gg):Gg.mk x.aS x.low x.bS x.aM x.ed x.bU x.dM=x:=rfl
structure gM where
 Xh:Int
 Xn:Int
@[simp] theorem gM.eta (x:gM):gM.mk x.Xh x.Xn=x:=rfl
structure pE where
 c0:ab
 c1:ab
@[simp] theorem pE.eta (x:pE):pE.mk x.c0 x.c1=x:=rfl
structure wC where
 c0:Int
 c1:Int
@[simp] theorem wC.eta (x:wC):wC.mk x.c0 x.c1=x:=rfl
attribute [simp] aj.eta
inductive mh where
 |aa
 |br
 |aq
 |af
 |aw
 |ai
 |Timer
 |aT
 |oV
 |Src
 |eL
 |ja
 |Config
 |iT
 |Seen
 |Claim
 |Message
 |nO
 |tz
 |np
 |sf
 deriving DecidableEq
inductive Ty where
 |i (k:IntKind)
 |bool
 |str
 |sl (t:Ty)
 |mp (a b:Ty)
 |st (n:mh)
def mh.den:mh->Type
 | .aa=>aj
 | .br=>ay
 | .aq=>ax
 | .af=>ab
 | .aw=>al
 | .ai=>ak
 | .Timer=>dz
 | .aT=>bI
 | .oV=>jt
 | .Src=>dm
 | .eL=>aH
 | .ja=>aR
 | .Config=>aZ
 | .iT=>bE
 | .Seen=>gg
 | .Claim=>gz
 | .Message=>eG
 | .nO=>Gg
 | .tz=>gM
 | .np=>pE
 | .sf=>wC
def Ty.den:Ty->Type
 | .i _=>Int
 | .bool=>Bool
 | .str=>ByteArray
 | .sl t=>List t.den
 | .mp a b=>List (a.den×b.den)
 | .st n=>n.den
def Ty.beq:Ty->Ty->Bool
 | .i k,.i k'=>decide (k=k')
 | .bool,.bool=>true
 | .str,.str=>true
 | .sl t,.sl t'=>Ty.beq t t'
 | .mp a b,.mp a' b'=>Ty.beq a a'&&Ty.beq b b'
 | .st n,.st n'=>decide (n=n')
 |_,_=>false
theorem Ty.eq_of_beq:∀{a b:Ty},Ty.beq a b=true->a=b
 | .i k,.i k',h=>by rw[of_decide_eq_true h]
 | .bool,.bool,_=>rfl
 | .str,.str,_=>rfl
 | .sl t,.sl t',h=>by rw[Ty.eq_of_beq (a:=t) (b:=t') h]
 | .mp a b,.mp a' b',h=>by
  rw[Ty.beq,Qm]at h;rw[Ty.eq_of_beq (a:=a) (b:=a') h.1,Ty.eq_of_beq (a:=b) (b:=b') h.2]
 | .st n,.st n',h=>by rw[of_decide_eq_true h]
 | .i _,.bool,h=>by cases h
 | .i _,.str,h=>by cases h
 | .i _,.sl _,h=>by cases h
 | .i _,.st _,h=>by cases h
 | .bool,.i _,h=>by cases h
 | .bool,.str,h=>by cases h
 | .bool,.sl _,h=>by cases h
 | .bool,.st _,h=>by cases h
 | .str,.i _,h=>by cases h
 | .str,.bool,h=>by cases h
 | .str,.sl _,h=>by cases h
 | .str,.st _,h=>by cases h
 | .sl _,.i _,h=>by cases h
 | .sl _,.bool,h=>by cases h
 | .sl _,.str,h=>by cases h
 | .sl _,.st _,h=>by cases h
 | .st _,.i _,h=>by cases h
 | .st _,.bool,h=>by cases h
 | .st _,.str,h=>by cases h
 | .st _,.sl _,h=>by cases h
 | .mp _ _,.i _,h=>by cases h
 | .i _,.mp _ _,h=>by cases h
 | .mp _ _,.bool,h=>by cases h
 | .bool,.mp _ _,h=>by cases h
 | .mp _ _,.str,h=>by cases h
 | .str,.mp _ _,h=>by cases h
 | .mp _ _,.sl _,h=>by cases h
 | .sl _,.mp _ _,h=>by cases h
 | .mp _ _,.st _,h=>by cases h
 | .st _,.mp _ _,h=>by cases h
theorem Ty.F9:∀(a:Ty),Ty.beq a a=true
 | .i k=>Qg rfl
 | .bool=>rfl
 | .str=>rfl
 | .sl t=>Ty.F9 t
 | .mp a b=>by rw[Ty.beq,Ty.F9 a,Ty.F9 b];rfl
 | .st n=>Qg rfl
def Ty.YI(a b:Ty):Decidable (a=b):=
 match h:Ty.beq a b with
 |true=>isTrue (Ty.eq_of_beq h)
 |false=>isFalse fun e=>by rw[e,Ty.F9]at h;cases h
@[reducible] def Cf:List Ty->Type
 |[]=>Unit
 |t::l=>t.den×Cf l
def mh.leaves:mh->List Ty
 | .aa=>[(Ty.i .i64),(Ty.sl (Ty.i .i64)),(Ty.sl (Ty.st .aa))]
 | .br=>[(Ty.i .i64),(Ty.i .i64),(Ty.i .i64),(Ty.sl (Ty.i .i64)),(Ty.sl (Ty.st .aa)),(Ty.sl Ty.str),(Ty.sl Ty.str)]
 | .aq=>[(Ty.i .i64),(Ty.i .i64),(Ty.i .i64),(Ty.i .i64),(Ty.i .i64),(Ty.sl (Ty.i .i64)),(Ty.sl (Ty.st .aa)),Ty.str,(Ty.sl Ty.str),(Ty.sl Ty.str),(Ty.sl Ty.str),(Ty.sl (Ty.st .br))]
 | .af=>[(Ty.i .i64),Ty.str]
 | .aw=>[(Ty.i .i64),(Ty.i .i64),(Ty.i .i64),(Ty.i .i64),(Ty.sl (Ty.i .i64)),(Ty.sl (Ty.st .aa)),(Ty.i .i64),(Ty.i .i64),Ty.str,(Ty.i .i64),Ty.str,(Ty.i .i64),Ty.str,(Ty.i .i64),(Ty.i .i64)]
 | .ai=>[(Ty.i .i64),(Ty.i .i64),(Ty.i .i64),(Ty.i .i64),(Ty.sl (Ty.i .i64)),(Ty.sl (Ty.st .aa)),(Ty.i .i64),(Ty.i .i64),Ty.str,(Ty.i .i64),Ty.str,(Ty.i .i64),Ty.str,(Ty.i .i64),Ty.str,(Ty.i .i64),(Ty.i .i64),Ty.str,(Ty.sl (Ty.st .aw))]
 | .Timer=>[(Ty.i .i64),(Ty.i .i64)]
 | .aT=>[(Ty.i .i64),(Ty.i .i64),(Ty.i .i64),(Ty.i .i64),(Ty.i .i64),(Ty.sl (Ty.i .i64)),(Ty.sl (Ty.st .aa)),Ty.str,(Ty.sl Ty.str),(Ty.sl Ty.str),(Ty.sl Ty.str),(Ty.sl (Ty.st .br)),(Ty.i .i64),(Ty.i .i64),(Ty.i .i64),(Ty.i .i64),(Ty.sl (Ty.i .i64)),(Ty.sl (Ty.st .aa)),(Ty.i .i64),(Ty.i .i64),Ty.str,(Ty.i .i64),Ty.str,(Ty.i .i64),Ty.str,(Ty.i .i64),Ty.str,(Ty.i .i64),(Ty.i .i64),Ty.str,(Ty.sl (Ty.st .aw)),(Ty.i .i64),(Ty.i .i64),(Ty.i .i64),(Ty.i .i64),Ty.bool,Ty.str]
 | .oV=>[(Ty.i .i64),(Ty.i .i64),(Ty.i .i64),(Ty.i .i64),(Ty.i .i64),(Ty.sl (Ty.i .i64)),(Ty.sl (Ty.st .aa)),(Ty.sl Ty.str),(Ty.sl Ty.str),(Ty.i .i64),(Ty.i .i64),(Ty.i .i64),(Ty.i .i64),(Ty.sl (Ty.i .i64)),(Ty.sl (Ty.st .aa)),(Ty.i .i64),(Ty.i .i64),Ty.str,(Ty.i .i64),Ty.str,(Ty.i .i64),Ty.str,(Ty.i .i64),(Ty.i .i64)]
 | .Src=>[(Ty.sl (Ty.i .i64)),(Ty.i .i64)]
 | .eL=>[(Ty.i .i64),(Ty.i .i64),(Ty.i .i64),(Ty.i .i64),(Ty.sl (Ty.i .i64)),(Ty.sl (Ty.st .aa)),(Ty.i .i64),(Ty.i .i64),Ty.str,(Ty.i .i64),Ty.str,(Ty.i .i64),Ty.str,(Ty.i .i64),Ty.str,(Ty.i .i64),(Ty.i .i64),Ty.str,(Ty.sl (Ty.st .aw))]
 | .ja=>[Ty.bool,(Ty.i .i64),(Ty.sl (Ty.i .i64)),(Ty.sl (Ty.st .aa))]
 | .Config=>[(Ty.sl (Ty.st .ja))]
 | .iT=>[(Ty.i .i64),(Ty.i .i64),(Ty.i .i64),(Ty.i .i64),(Ty.sl (Ty.i .i64)),(Ty.sl (Ty.st .aa)),(Ty.i .i64),(Ty.i .i64),Ty.str,(Ty.i .i64),Ty.str,(Ty.i .i64),Ty.str,(Ty.i .i64),(Ty.i .i64)]
 | .Seen=>[(Ty.i .i64),(Ty.sl (Ty.st .ja)),(Ty.sl (Ty.st .iT))]
 | .Claim=>[(Ty.i .i64),(Ty.i .i64)]
 | .Message=>[(Ty.i .i64),(Ty.i .i64),(Ty.i .i64),(Ty.sl (Ty.i .i64)),(Ty.sl (Ty.st .aa)),(Ty.sl (Ty.st .Claim)),(Ty.sl (Ty.st .Claim))]
 | .nO=>[(Ty.i .i64),(Ty.i .i64),(Ty.i .i64),(Ty.i .i64),Ty.str,(Ty.i .i64),Ty.str,(Ty.i .i64),Ty.str,(Ty.i .i64),Ty.str]
 | .tz=>[(Ty.i .i64),(Ty.i .i64)]
 | .np=>[(Ty.i .i64),Ty.str,(Ty.i .i64),Ty.str]
 | .sf=>[(Ty.i .i64),(Ty.i .i64)]
def mh.toL:(n:mh)->n.den->Cf n.leaves
 | .aa,(v:aj)=>(v.aL,v.ba,v.aN,())
 | .br,(v:ay)=>(v.au,v.aI,v.aa.aL,v.aa.ba,v.aa.aN,v.cu,v.bj,())
 | .aq,(v:ax)=>(v.au,v.aT,v.Round,v.aI,v.aa.aL,v.aa.ba,v.aa.aN,v.nO,v.cu,v.bj,v.bR,v.aA,())
 | .af,(v:ab)=>(v.an,v.Value,())
 | .aw,(v:al)=>(v.au,v.aT,v.aI,v.aa.aL,v.aa.ba,v.aa.aN,v.bD,v.af.an,v.af.Value,v.ao.an,v.ao.Value,v.az.an,v.az.Value,v.aQ,v.bb,())
 | .ai,(v:ak)=>(v.au,v.aT,v.aI,v.aa.aL,v.aa.ba,v.aa.aN,v.aJ,v.af.an,v.af.Value,v.ao.an,v.ao.Value,v.az.an,v.az.Value,v.av.an,v.av.Value,v.aQ,v.bb,v.bh,v.aA,())
 | .Timer,(v:dz)=>(v.an,v.C6,())
 | .aT,(v:bI)=>(v.aq.au,v.aq.aT,v.aq.Round,v.aq.aI,v.aq.aa.aL,v.aq.aa.ba,v.aq.aa.aN,v.aq.nO,v.aq.cu,v.aq.bj,v.aq.bR,v.aq.aA,v.ai.au,v.ai.aT,v.ai.aI,v.ai.aa.aL,v.ai.aa.ba,v.ai.aa.aN,v.ai.aJ,v.ai.af.an,v.ai.af.Value,v.ai.ao.an,v.ai.ao.Value,v.ai.az.an,v.ai.az.Value,v.ai.av.an,v.ai.av.Value,v.ai.aQ,v.ai.bb,v.ai.bh,v.ai.aA,v.Timer.an,v.Timer.C6,v.Round,v.Next,v.nZ,v.Value,())
 | .oV,(v:jt)=>(v.bD,v.aT,v.br.au,v.br.aI,v.br.aa.aL,v.br.aa.ba,v.br.aa.aN,v.br.cu,v.br.bj,v.aw.au,v.aw.aT,v.aw.aI,v.aw.aa.aL,v.aw.aa.ba,v.aw.aa.aN,v.aw.bD,v.aw.af.an,v.aw.af.Value,v.aw.ao.an,v.aw.ao.Value,v.aw.az.an,v.aw.az.Value,v.aw.aQ,v.aw.bb,())
 | .Src,(v:dm)=>(v.L,v.At,())
 | .eL,(v:aH)=>(v.ai.au,v.ai.aT,v.ai.aI,v.ai.aa.aL,v.ai.aa.ba,v.ai.aa.aN,v.ai.aJ,v.ai.af.an,v.ai.af.Value,v.ai.ao.an,v.ai.ao.Value,v.ai.az.an,v.ai.az.Value,v.ai.av.an,v.ai.av.Value,v.ai.aQ,v.ai.bb,v.ai.bh,v.ai.aA,())
 | .ja,(v:aR)=>(v.dG,v.aa.aL,v.aa.ba,v.aa.aN,())
 | .Config,(v:aZ)=>(v.bl,())
 | .iT,(v:bE)=>(v.aw.au,v.aw.aT,v.aw.aI,v.aw.aa.aL,v.aw.aa.ba,v.aw.aa.aN,v.aw.bD,v.aw.af.an,v.aw.af.Value,v.aw.ao.an,v.aw.ao.Value,v.aw.az.an,v.aw.az.Value,v.aw.aQ,v.aw.bb,())
 | .Seen,(v:gg)=>(v.au,v.View.bl,v.aA,())
 | .Claim,(v:gz)=>(v.ri,v.Value,())
 | .Message,(v:eG)=>(v.au,v.aI,v.aa.aL,v.aa.ba,v.aa.aN,v.cu,v.bj,())
 | .nO,(v:Gg)=>(v.aS,v.low,v.bS,v.aM.an,v.aM.Value,v.ed.an,v.ed.Value,v.bU.an,v.bU.Value,v.dM.an,v.dM.Value,())
 | .tz,(v:gM)=>(v.Xh,v.Xn,())
 | .np,(v:pE)=>(v.c0.an,v.c0.Value,v.c1.an,v.c1.Value,())
 | .sf,(v:wC)=>(v.c0,v.c1,())
def mh.ofL:(n:mh)->Cf n.leaves->n.den
 | .aa,v=>(aj.mk v.1 v.2.1 v.2.2.1)
 | .br,v=>(ay.mk v.1 v.2.1 (aj.mk v.2.2.1 v.2.2.2.1 v.2.2.2.2.1) v.2.2.2.2.2.1 v.2.2.2.2.2.2.1)
 | .aq,v=>(ax.mk v.1 v.2.1 v.2.2.1 v.2.2.2.1 (aj.mk v.2.2.2.2.1 v.2.2.2.2.2.1 v.2.2.2.2.2.2.1) v.2.2.2.2.2.2.2.1 v.2.2.2.2.2.2.2.2.1 v.2.2.2.2.2.2.2.2.2.1 v.2.2.2.2.2.2.2.2.2.2.1 v.2.2.2.2.2.2.2.2.2.2.2.1)
 | .af,v=>(ab.mk v.1 v.2.1)
 | .aw,v=>(al.mk v.1 v.2.1 v.2.2.1 (aj.mk v.2.2.2.1 v.2.2.2.2.1 v.2.2.2.2.2.1) v.2.2.2.2.2.2.1 (ab.mk v.2.2.2.2.2.2.2.1 v.2.2.2.2.2.2.2.2.1) (ab.mk v.2.2.2.2.2.2.2.2.2.1 v.2.2.2.2.2.2.2.2.2.2.1) (ab.mk v.2.2.2.2.2.2.2.2.2.2.2.1 v.2.2.2.2.2.2.2.2.2.2.2.2.1) v.2.2.2.2.2.2.2.2.2.2.2.2.2.1 v.2.2.2.2.2.2.2.2.2.2.2.2.2.2.1)
 | .ai,v=>(ak.mk v.1 v.2.1 v.2.2.1 (aj.mk v.2.2.2.1 v.2.2.2.2.1 v.2.2.2.2.2.1) v.2.2.2.2.2.2.1 (ab.mk v.2.2.2.2.2.2.2.1 v.2.2.2.2.2.2.2.2.1) (ab.mk v.2.2.2.2.2.2.2.2.2.1 v.2.2.2.2.2.2.2.2.2.2.1) (ab.mk v.2.2.2.2.2.2.2.2.2.2.2.1 v.2.2.2.2.2.2.2.2.2.2.2.2.1) (ab.mk v.2.2.2.2.2.2.2.2.2.2.2.2.2.1 v.2.2.2.2.2.2.2.2.2.2.2.2.2.2.1) v.2.2.2.2.2.2.2.2.2.2.2.2.2.2.2.1 v.2.2.2.2.2.2.2.2.2.2.2.2.2.2.2.2.1 v.2.2.2.2.2.2.2.2.2.2.2.2.2.2.2.2.2.1 v.2.2.2.2.2.2.2.2.2.2.2.2.2.2.2.2.2.2.1)
 | .Timer,v=>(dz.mk v.1 v.2.1)
 | .aT,v=>(bI.mk (ax.mk v.1 v.2.1 v.2.2.1 v.2.2.2.1 (aj.mk v.2.2.2.2.1 v.2.2.2.2.2.1 v.2.2.2.2.2.2.1) v.2.2.2.2.2.2.2.1 v.2.2.2.2.2.2.2.2.1 v.2.2.2.2.2.2.2.2.2.1 v.2.2.2.2.2.2.2.2.2.2.1 v.2.2.2.2.2.2.2.2.2.2.2.1) (ak.mk v.2.2.2.2.2.2.2.2.2.2.2.2.1 v.2.2.2.2.2.2.2.2.2.2.2.2.2.1 v.2.2.2.2.2.2.2.2.2.2.2.2.2.2.1 (aj.mk v.2.2.2.2.2.2.2.2.2.2.2.2.2.2.2.1 v.2.2.2.2.2.2.2.2.2.2.2.2.2.2.2.2.1 v.2.2.2.2.2.2.2.2.2.2.2.2.2.2.2.2.2.1) v.2.2.2.2.2.2.2.2.2.2.2.2.2.2.2.2.2.2.1 (ab.mk v.2.2.2.2.2.2.2.2.2.2.2.2.2.2.2.2.2.2.2.1 v.2.2.2.2.2.2.2.2.2.2.2.2.2.2.2.2.2.2.2.2.1) (ab.mk v.2.2.2.2.2.2.2.2.2.2.2.2.2.2.2.2.2.2.2.2.2.1 v.2.2.2.2.2.2.2.2.2.2.2.2.2.2.2.2.2.2.2.2.2.2.1) (ab.mk v.2.2.2.2.2.2.2.2.2.2.2.2.2.2.2.2.2.2.2.2.2.2.2.1 v.2.2.2.2.2.2.2.2.2.2.2.2.2.2.2.2.2.2.2.2.2.2.2.2.1) (ab.mk v.2.2.2.2.2.2.2.2.2.2.2.2.2.2.2.2.2.2.2.2.2.2.2.2.2.1 v.2.2.2.2.2.2.2.2.2.2.2.2.2.2.2.2.2.2.2.2.2.2.2.2.2.2.1) v.2.2.2.2.2.2.2.2.2.2.2.2.2.2.2.2.2.2.2.2.2.2.2.2.2.2.2.1 v.2.2.2.2.2.2.2.2.2.2.2.2.2.2.2.2.2.2.2.2.2.2.2.2.2.2.2.2.1 v.2.2.2.2.2.2.2.2.2.2.2.2.2.2.2.2.2.2.2.2.2.2.2.2.2.2.2.2.2.1 v.2.2.2.2.2.2.2.2.2.2.2.2.2.2.2.2.2.2.2.2.2.2.2.2.2.2.2.2.2.2.1) (dz.mk v.2.2.2.2.2.2.2.2.2.2.2.2.2.2.2.2.2.2.2.2.2.2.2.2.2.2.2.2.2.2.2.1 v.2.2.2.2.2.2.2.2.2.2.2.2.2.2.2.2.2.2.2.2.2.2.2.2.2.2.2.2.2.2.2.2.1) v.2.2.2.2.2.2.2.2.2.2.2.2.2.2.2.2.2.2.2.2.2.2.2.2.2.2.2.2.2.2.2.2.2.1 v.2.2.2.2.2.2.2.2.2.2.2.2.2.2.2.2.2.2.2.2.2.2.2.2.2.2.2.2.2.2.2.2.2.2.1 v.2.2.2.2.2.2.2.2.2.2.2.2.2.2.2.2.2.2.2.2.2.2.2.2.2.2.2.2.2.2.2.2.2.2.2.1 v.2.2.2.2.2.2.2.2.2.2.2.2.2.2.2.2.2.2.2.2.2.2.2.2.2.2.2.2.2.2.2.2.2.2.2.2.1)
 | .oV,v=>(jt.mk v.1 v.2.1 (ay.mk v.2.2.1 v.2.2.2.1 (aj.mk v.2.2.2.2.1 v.2.2.2.2.2.1 v.2.2.2.2.2.2.1) v.2.2.2.2.2.2.2.1 v.2.2.2.2.2.2.2.2.1) (al.mk v.2.2.2.2.2.2.2.2.2.1 v.2.2.2.2.2.2.2.2.2.2.1 v.2.2.2.2.2.2.2.2.2.2.2.1 (aj.mk v.2.2.2.2.2.2.2.2.2.2.2.2.1 v.2.2.2.2.2.2.2.2.2.2.2.2.2.1 v.2.2.2.2.2.2.2.2.2.2.2.2.2.2.1) v.2.2.2.2.2.2.2.2.2.2.2.2.2.2.2.1 (ab.mk v.2.2.2.2.2.2.2.2.2.2.2.2.2.2.2.2.1 v.2.2.2.2.2.2.2.2.2.2.2.2.2.2.2.2.2.1) (ab.mk v.2.2.2.2.2.2.2.2.2.2.2.2.2.2.2.2.2.2.1 v.2.2.2.2.2.2.2.2.2.2.2.2.2.2.2.2.2.2.2.1) (ab.mk v.2.2.2.2.2.2.2.2.2.2.2.2.2.2.2.2.2.2.2.2.1 v.2.2.2.2.2.2.2.2.2.2.2.2.2.2.2.2.2.2.2.2.2.1) v.2.2.2.2.2.2.2.2.2.2.2.2.2.2.2.2.2.2.2.2.2.2.1 v.2.2.2.2.2.2.2.2.2.2.2.2.2.2.2.2.2.2.2.2.2.2.2.1))
 | .Src,v=>(dm.mk v.1 v.2.1)
 | .eL,v=>(aH.mk (ak.mk v.1 v.2.1 v.2.2.1 (aj.mk v.2.2.2.1 v.2.2.2.2.1 v.2.2.2.2.2.1) v.2.2.2.2.2.2.1 (ab.mk v.2.2.2.2.2.2.2.1 v.2.2.2.2.2.2.2.2.1) (ab.mk v.2.2.2.2.2.2.2.2.2.1 v.2.2.2.2.2.2.2.2.2.2.1) (ab.mk v.2.2.2.2.2.2.2.2.2.2.2.1 v.2.2.2.2.2.2.2.2.2.2.2.2.1) (ab.mk v.2.2.2.2.2.2.2.2.2.2.2.2.2.1 v.2.2.2.2.2.2.2.2.2.2.2.2.2.2.1) v.2.2.2.2.2.2.2.2.2.2.2.2.2.2.2.1 v.2.2.2.2.2.2.2.2.2.2.2.2.2.2.2.2.1 v.2.2.2.2.2.2.2.2.2.2.2.2.2.2.2.2.2.1 v.2.2.2.2.2.2.2.2.2.2.2.2.2.2.2.2.2.2.1))
 | .ja,v=>(aR.mk v.1 (aj.mk v.2.1 v.2.2.1 v.2.2.2.1))
 | .Config,v=>(aZ.mk v.1)
 | .iT,v=>(bE.mk (al.mk v.1 v.2.1 v.2.2.1 (aj.mk v.2.2.2.1 v.2.2.2.2.1 v.2.2.2.2.2.1) v.2.2.2.2.2.2.1 (ab.mk v.2.2.2.2.2.2.2.1 v.2.2.2.2.2.2.2.2.1) (ab.mk v.2.2.2.2.2.2.2.2.2.1 v.2.2.2.2.2.2.2.2.2.2.1) (ab.mk v.2.2.2.2.2.2.2.2.2.2.2.1 v.2.2.2.2.2.2.2.2.2.2.2.2.1) v.2.2.2.2.2.2.2.2.2.2.2.2.2.1 v.2.2.2.2.2.2.2.2.2.2.2.2.2.2.1))
 | .Seen,v=>(gg.mk v.1 (aZ.mk v.2.1) v.2.2.1)
 | .Claim,v=>(gz.mk v.1 v.2.1)
 | .Message,v=>(eG.mk v.1 v.2.1 (aj.mk v.2.2.1 v.2.2.2.1 v.2.2.2.2.1) v.2.2.2.2.2.1 v.2.2.2.2.2.2.1)
 | .nO,v=>(Gg.mk v.1 v.2.1 v.2.2.1 (ab.mk v.2.2.2.1 v.2.2.2.2.1) (ab.mk v.2.2.2.2.2.1 v.2.2.2.2.2.2.1) (ab.mk v.2.2.2.2.2.2.2.1 v.2.2.2.2.2.2.2.2.1) (ab.mk v.2.2.2.2.2.2.2.2.2.1 v.2.2.2.2.2.2.2.2.2.2.1))
 | .tz,v=>(gM.mk v.1 v.2.1)
 | .np,v=>(pE.mk (ab.mk v.1 v.2.1) (ab.mk v.2.2.1 v.2.2.2.1))
 | .sf,v=>(wC.mk v.1 v.2.1)
mutual
def gV:aj->List PV
 |⟨a0,a1,a2⟩=>[.int .i64 a0,.sl (a1.map (fun x=>[.int .i64 x])),.sl (xm a2)]
def xm:List aj->List (List PV)
 |[]=>[]
 |x::l=>gV x::xm l
end
theorem Ee:∀(l:List aj),xm l=l.map gV
 |[]=>by rw[xm];rfl
 |x::l=>by rw[xm,Ee l];rfl
def yM(v:ay):List PV:=[.int .i64 v.au,.int .i64 v.aI,.int .i64 v.aa.aL,.sl (v.aa.ba.map (fun x=>[.int .i64 x])),.sl (v.aa.aN.map gV),.sl (v.cu.map (fun x=>[.str x])),.sl (v.bj.map (fun x=>[.str x]))]
def T6(v:ax):List PV:=[.int .i64 v.au,.int .i64 v.aT,.int .i64 v.Round,.int .i64 v.aI,.int .i64 v.aa.aL,.sl (v.aa.ba.map (fun x=>[.int .i64 x])),.sl (v.aa.aN.map gV),.str v.nO,.sl (v.cu.map (fun x=>[.str x])),.sl (v.bj.map (fun x=>[.str x])),.sl (v.bR.map (fun x=>[.str x])),.sl (v.aA.map yM)]
def ZB(v:ab):List PV:=[.int .i64 v.an,.str v.Value]
def xn(v:al):List PV:=[.int .i64 v.au,.int .i64 v.aT,.int .i64 v.aI,.int .i64 v.aa.aL,.sl (v.aa.ba.map (fun x=>[.int .i64 x])),.sl (v.aa.aN.map gV),.int .i64 v.bD,.int .i64 v.af.an,.str v.af.Value,.int .i64 v.ao.an,.str v.ao.Value,.int .i64 v.az.an,.str v.az.Value,.int .i64 v.aQ,.int .i64 v.bb]
def XF(v:ak):List PV:=[.int .i64 v.au,.int .i64 v.aT,.int .i64 v.aI,.int .i64 v.aa.aL,.sl (v.aa.ba.map (fun x=>[.int .i64 x])),.sl (v.aa.aN.map gV),.int .i64 v.aJ,.int .i64 v.af.an,.str v.af.Value,.int .i64 v.ao.an,.str v.ao.Value,.int .i64 v.az.an,.str v.az.Value,.int .i64 v.av.an,.str v.av.Value,.int .i64 v.aQ,.int .i64 v.bb,.str v.bh,.sl (v.aA.map xn)]
def aa3(v:dz):List PV:=[.int .i64 v.an,.int .i64 v.C6]
def acJ(v:bI):List PV:=[.int .i64 v.aq.au,.int .i64 v.aq.aT,.int .i64 v.aq.Round,.int .i64 v.aq.aI,.int .i64 v.aq.aa.aL,.sl (v.aq.aa.ba.map (fun x=>[.int .i64 x])),.sl (v.aq.aa.aN.map gV),.str v.aq.nO,.sl (v.aq.cu.map (fun x=>[.str x])),.sl (v.aq.bj.map (fun x=>[.str x])),.sl (v.aq.bR.map (fun x=>[.str x])),.sl (v.aq.aA.map yM),.int .i64 v.ai.au,.int .i64 v.ai.aT,.int .i64 v.ai.aI,.int .i64 v.ai.aa.aL,.sl (v.ai.aa.ba.map (fun x=>[.int .i64 x])),.sl (v.ai.aa.aN.map gV),.int .i64 v.ai.aJ,.int .i64 v.ai.af.an,.str v.ai.af.Value,.int .i64 v.ai.ao.an,.str v.ai.ao.Value,.int .i64 v.ai.az.an,.str v.ai.az.Value,.int .i64 v.ai.av.an,.str v.ai.av.Value,.int .i64 v.ai.aQ,.int .i64 v.ai.bb,.str v.ai.bh,.sl (v.ai.aA.map xn),.int .i64 v.Timer.an,.int .i64 v.Timer.C6,.int .i64 v.Round,.int .i64 v.Next,.bool v.nZ,.str v.Value]
def Zy(v:jt):List PV:=[.int .i64 v.bD,.int .i64 v.aT,.int .i64 v.br.au,.int .i64 v.br.aI,.int .i64 v.br.aa.aL,.sl (v.br.aa.ba.map (fun x=>[.int .i64 x])),.sl (v.br.aa.aN.map gV),.sl (v.br.cu.map (fun x=>[.str x])),.sl (v.br.bj.map (fun x=>[.str x])),.int .i64 v.aw.au,.int .i64 v.aw.aT,.int .i64 v.aw.aI,.int .i64 v.aw.aa.aL,.sl (v.aw.aa.ba.map (fun x=>[.int .i64 x])),.sl (v.aw.aa.aN.map gV),.int .i64 v.aw.bD,.int .i64 v.aw.af.an,.str v.aw.af.Value,.int .i64 v.aw.ao.an,.str v.aw.ao.Value,.int .i64 v.aw.az.an,.str v.aw.az.Value,.int .i64 v.aw.aQ,.int .i64 v.aw.bb]
def aeR(v:dm):List PV:=[.sl (v.L.map (fun x=>[.int .i64 x])),.int .i64 v.At]
def Zz(v:aH):List PV:=[.int .i64 v.ai.au,.int .i64 v.ai.aT,.int .i64 v.ai.aI,.int .i64 v.ai.aa.aL,.sl (v.ai.aa.ba.map (fun x=>[.int .i64 x])),.sl (v.ai.aa.aN.map gV),.int .i64 v.ai.aJ,.int .i64 v.ai.af.an,.str v.ai.af.Value,.int .i64 v.ai.ao.an,.str v.ai.ao.Value,.int .i64 v.ai.az.an,.str v.ai.az.Value,.int .i64 v.ai.av.an,.str v.ai.av.Value,.int .i64 v.ai.aQ,.int .i64 v.ai.bb,.str v.ai.bh,.sl (v.ai.aA.map xn)]
def Ft(v:aR):List PV:=[.bool v.dG,.int .i64 v.aa.aL,.sl (v.aa.ba.map (fun x=>[.int .i64 x])),.sl (v.aa.aN.map gV)]
def ZA(v:aZ):List PV:=[.sl (v.bl.map Ft)]
def Su(v:bE):List PV:=[.int .i64 v.aw.au,.int .i64 v.aw.aT,.int .i64 v.aw.aI,.int .i64 v.aw.aa.aL,.sl (v.aw.aa.ba.map (fun x=>[.int .i64 x])),.sl (v.aw.aa.aN.map gV),.int .i64 v.aw.bD,.int .i64 v.aw.af.an,.str v.aw.af.Value,.int .i64 v.aw.ao.an,.str v.aw.ao.Value,.int .i64 v.aw.az.an,.str v.aw.az.Value,.int .i64 v.aw.aQ,.int .i64 v.aw.bb]
def acK(v:gg):List PV:=[.int .i64 v.au,.sl (v.View.bl.map Ft),.sl (v.aA.map Su)]
def HZ(v:gz):List PV:=[.int .i64 v.ri,.int .i64 v.Value]
def XE(v:eG):List PV:=[.int .i64 v.au,.int .i64 v.aI,.int .i64 v.aa.aL,.sl (v.aa.ba.map (fun x=>[.int .i64 x])),.sl (v.aa.aN.map gV),.sl (v.cu.map HZ),.sl (v.bj.map HZ)]
def aeS(v:Gg):List PV:=[.int .i64 v.aS,.int .i64 v.low,.int .i64 v.bS,.int .i64 v.aM.an,.str v.aM.Value,.int .i64 v.ed.an,.str v.ed.Value,.int .i64 v.bU.an,.str v.bU.Value,.int .i64 v.dM.an,.str v.dM.Value]
def acL(v:gM):List PV:=[.int .i64 v.Xh,.int .i64 v.Xn]
def Rl(v:pE):List PV:=[.int .i64 v.c0.an,.str v.c0.Value,.int .i64 v.c1.an,.str v.c1.Value]
def XG(v:wC):List PV:=[.int .i64 v.c0,.int .i64 v.c1]
def mh.pv:(n:mh)->n.den->List PV
 | .aa,v=>gV v
 | .br,v=>yM v
 | .aq,v=>T6 v
 | .af,v=>ZB v
 | .aw,v=>xn v
 | .ai,v=>XF v
 | .Timer,v=>aa3 v
 | .aT,v=>acJ v
 | .oV,v=>Zy v
 | .Src,v=>aeR v
 | .eL,v=>Zz v
 | .ja,v=>Ft v
 | .Config,v=>ZA v
 | .iT,v=>Su v
 | .Seen,v=>acK v
 | .Claim,v=>HZ v
 | .Message,v=>XE v
 | .nO,v=>aeS v
 | .tz,v=>acL v
 | .np,v=>Rl v
 | .sf,v=>XG v
def Ty.isAgg:Ty->Bool
 | .st _=>true
 |_=>false
def adQ(t:Ty)(cs:List PV):PV:=match t.isAgg with|true=> .agg cs|false=>cs.headD .any
def Ty.pv:(t:Ty)->t.den->List PV
 | .i k,n=>[.int k n]
 | .bool,b=>[.bool b]
 | .str,s=>[.str s]
 | .sl t,(xs:List t.den)=>[.sl (xs.map (Ty.pv t))]
 | .mp a b,(xs:List (a.den×b.den))=>[.iw (xs.map fun p=>adQ a (Ty.pv a p.1)) (xs.map fun p=>adQ b (Ty.pv b p.2))]
 | .st n,v=>n.pv v
def xw:(ls:List Ty)->Cf ls->List PV
 |[],_=>[]
 |t::l,v=>t.pv v.1++xw l v.2
theorem mh.N0:∀(n:mh) (v:n.den),n.pv v=xw n.leaves (n.toL v)
 | .aa,v=>by cases v;simp only[mh.pv,gV,Ee];rfl
 | .br,v=>rfl
 | .aq,v=>rfl
 | .af,v=>rfl
 | .aw,v=>rfl
 | .ai,v=>rfl
 | .Timer,v=>rfl
 | .aT,v=>rfl
 | .oV,v=>rfl
 | .Src,v=>rfl
 | .eL,v=>rfl
 | .ja,v=>rfl
 | .Config,v=>rfl
 | .iT,v=>rfl
 | .Seen,v=>rfl
 | .Claim,v=>rfl
 | .Message,v=>rfl
 | .nO,v=>rfl
 | .tz,v=>rfl
 | .np,v=>rfl
 | .sf,v=>rfl
def Ty.leaf:Ty->Bool
 | .st _=>false
 |_=>true
theorem mh.Jp:∀(n:mh),n.leaves.all Ty.leaf=true
 | .aa=>rfl
 | .br=>rfl
 | .aq=>rfl
 | .af=>rfl
 | .aw=>rfl
 | .ai=>rfl
 | .Timer=>rfl
 | .aT=>rfl
 | .oV=>rfl
 | .Src=>rfl
 | .eL=>rfl
 | .ja=>rfl
 | .Config=>rfl
 | .iT=>rfl
 | .Seen=>rfl
 | .Claim=>rfl
 | .Message=>rfl
 | .nO=>rfl
 | .tz=>rfl
 | .np=>rfl
 | .sf=>rfl
theorem mh.ahL:∀(n:mh) (v:Cf n.leaves),n.toL (n.ofL v)=v
 | .aa,v=>rfl
 | .br,v=>rfl
 | .aq,v=>rfl
 | .af,v=>rfl
 | .aw,v=>rfl
 | .ai,v=>rfl
 | .Timer,v=>rfl
 | .aT,v=>rfl
 | .oV,v=>rfl
 | .Src,v=>rfl
 | .eL,v=>rfl
 | .ja,v=>rfl
 | .Config,v=>rfl
 | .iT,v=>rfl
 | .Seen,v=>rfl
 | .Claim,v=>rfl
 | .Message,v=>rfl
 | .nO,v=>rfl
 | .tz,v=>rfl
 | .np,v=>rfl
 | .sf,v=>rfl
def Ty.ZM:Ty->Bool
 | .sl _=>false
 | .mp _ _=>false
 |_=>true
@[reducible] def U:TU where
 Ty:=Ty
 YI:=Ty.YI
 den:=Ty.den
 pv:=Ty.pv
 size:=fun t=>match t with| .st n=>n.leaves.length|_=>1
 agg:=Ty.isAgg
 plain:=fun t=>match t with| .st n=>n.leaves.all Ty.ZM|t=>t.ZM
def FK:(t:Ty)->t.den->KV U
 | .i k,n=> .int k n
 | .bool,b=> .bool b
 | .str,s=> .str s
 | .sl t,(xs:List t.den)=> .sl t xs
 | .mp a b,(xs:List (a.den×b.den))=> .iw a b xs
 | .st _,_=> .any
def Jo:(ls:List Ty)->Cf ls->List (KV U)
 |[],_=>[]
 |t::l,v=>FK t v.1::Jo l v.2
def ahb:(t:Ty)->t.den->List (KV U)
 | .st n,v=>Jo n.leaves (n.toL v)
 | .i k,v=>[FK (.i k) v]
 | .bool,v=>[FK .bool v]
 | .str,v=>[FK .str v]
 | .sl t,v=>[FK (.sl t) v]
 | .mp a b,v=>[FK (.mp a b) v]
def y3(lk:Lk U):(t:Ty)->KV U->Option t.den
 | .i k,x=>adn k x
 | .bool,x=>IK x
 | .str,x=>adl x
 | .sl t,x=>Wx (U:=U) lk t x
 | .mp a b,x=>adm (U:=U) a b x
 | .st _,_=>none
def z6(lk:Lk U):(ls:List Ty)->List (KV U)->Option (Cf ls)
 |[],cs=>match cs with|[]=>some ()|_=>none
 |t::l,cs=>match cs with
  |c::cs=>(match y3 lk t c with
   |some v=>(match z6 lk l cs with|some vs=>some (v,vs)|none=>none)
   |none=>none)
  |[]=>none
def MP{α:Type}(f:KV U->Option α):List (KV U)->Option α
 |[x]=>f x
 |_=>none
def ajr:(t:Ty)->Lk U->List (KV U)->Option t.den
 | .st n,lk,cs=>(match z6 lk n.leaves cs with|some v=>some (n.ofL v)|none=>none)
 | .i k,lk,cs=>MP (y3 lk (.i k)) cs
 | .bool,lk,cs=>MP (y3 lk .bool) cs
 | .str,lk,cs=>MP (y3 lk .str) cs
 | .sl t,lk,cs=>MP (y3 lk (.sl t)) cs
 | .mp a b,lk,cs=>MP (y3 lk (.mp a b)) cs
theorem ac5:∀(t:Ty) (v:t.den),t.leaf=true->[(FK t v).pv]=t.pv v
 | .i k,v,_=>rfl
 | .bool,v,_=>rfl
 | .str,v,_=>rfl
 | .sl t,v,_=>rfl
 | .mp a b,v,_=>rfl
 | .st _,_,h=>by cases h
theorem Oq:∀(ls:List Ty) (v:Cf ls),ls.all Ty.leaf=true->(Jo ls v).map KV.pv=xw ls v
 |[],_,_=>rfl
 |t::l,v,h=>by
  rw[List.all_cons,Qm]at h;rw[Jo,xw,QD,Oq l v.2 h.2,<-ac5 t v.1 h.1];rfl
theorem uh{lk:Lk U}:∀{t:Ty} {x:KV U} {v:t.den},y3 lk t x=some v->gU lk [x] (t.pv v)
 | .i k,x,v,h=> .cons (afS h) .nil
 | .bool,x,v,h=> .cons (afU h) .nil
 | .str,x,v,h=> .cons (afP h) .nil
 | .sl t,x,v,h=> .cons (afR (U:=U) h) .nil
 | .mp a b,x,v,h=> .cons (afQ (U:=U) h) .nil
 | .st _,_,_,h=>by cases h
theorem gU.cI{lk:Lk U}{x:KV U}{ys:List PV}{xs:List (KV U)}{zs:List PV}(h:gU lk [x] ys)(k:gU lk xs zs):gU lk (x::xs) (ys++zs):=by
 cases h with
 |cons h1 h2=>cases h2 with|nil=>exact .cons h1 k
theorem IJ{lk:Lk U}:∀{ls:List Ty} {cs:List (KV U)} {v:Cf ls},z6 lk ls cs=some v->gU lk cs (xw ls v)
 |[],[],_,_=> .nil
 |[],_::_,_,h=>by cases h
 |_::_,[],_,h=>by cases h
 |t::l,c::cs,v,h=>by
  rw[z6]at h;split at h
  ·rename_i v1 h1;split at h
   ·rename_i vs h2;injection h with h
    subst h;exact(uh h1).cI (IJ h2)
   ·cases h
  ·cases h
theorem EE{α:Type}{f:KV U->Option α}{cs:List (KV U)}{v:α}(h:MP f cs=some v):∃x,cs=[x]/\f x=some v:=by
 unfold MP at h;split at h
 ·exact⟨_,rfl,h⟩
 ·cases h
theorem aa2:∀(ls:List Ty) (v:Cf ls),ls.all Ty.leaf=true->(xw ls v).length=ls.length
 |[],_,_=>rfl
 |t::l,v,h=>by
  rw[List.all_cons,Qm]at h
  have:(t.pv v.1).length=1:=by
   cases t with
   |st n=>cases h.1
   |_=>rfl
  rw[xw,QB,aa2 l v.2 h.2,this,QE,Nat.add_comm]
theorem oL:∀(t:Ty) (v:t.den),t.leaf=true->∀y∈t.pv v,y.gn=true/\(t.ZM=true->y.plain=true)
 | .i k,v,_,y,h=>by simp only[Ty.pv,List.mem_singleton]at h;subst h;exact⟨rfl,fun _=>rfl⟩
 | .bool,v,_,y,h=>by simp only[Ty.pv,List.mem_singleton]at h;subst h;exact⟨rfl,fun _=>rfl⟩
 | .str,v,_,y,h=>by simp only[Ty.pv,List.mem_singleton]at h;subst h;exact⟨rfl,fun _=>rfl⟩
 | .sl t,v,_,y,h=>by simp only[Ty.pv,List.mem_singleton]at h;subst h;exact⟨rfl,fun h=>by cases h⟩
 | .mp a b,v,_,y,h=>by simp only[Ty.pv,List.mem_singleton]at h;subst h;exact⟨rfl,fun h=>by cases h⟩
 | .st _,_,h,_,_=>by cases h
theorem Dp:∀(ls:List Ty) (v:Cf ls),ls.all Ty.leaf=true->∀y∈xw ls v,y.gn=true/\(ls.all Ty.ZM=true->y.plain=true)
 |[],_,_,y,h=>by cases h
 |t::l,v,h,y,hy=>by
  rw[List.all_cons,Qm]at h;rw[xw,Qz]at hy;rcases hy with hy|hy
  ·obtain⟨h1,h2⟩:=oL t v.1 h.1 y hy;exact⟨h1,fun hp=>by rw[List.all_cons,Qm]at hp;exact h2 hp.1⟩
  ·obtain⟨h1,h2⟩:=Dp l v.2 h.2 y hy;exact⟨h1,fun hp=>by rw[List.all_cons,Qm]at hp;exact h2 hp.2⟩
def Rq:mh->Option (IntKind×IntKind)
 | .Timer=>some (.i64,.i64)
 | .Claim=>some (.i64,.i64)
 | .tz=>some (.i64,.i64)
 | .sf=>some (.i64,.i64)
 |_=>none
theorem Jq:∀(n:mh) (k l:IntKind),Rq n=some (k,l)->∀v,∃a b,ahb (.st n) v=[.int k a,.int l b]
 | .Timer,_,_,h=>by injection h with h;injection h with h1 h2;subst h1 h2;exact fun v=>⟨_,_,rfl⟩
 | .Claim,_,_,h=>by injection h with h;injection h with h1 h2;subst h1 h2;exact fun v=>⟨_,_,rfl⟩
 | .tz,_,_,h=>by injection h with h;injection h with h1 h2;subst h1 h2;exact fun v=>⟨_,_,rfl⟩
 | .sf,_,_,h=>by injection h with h;injection h with h1 h2;subst h1 h2;exact fun v=>⟨_,_,rfl⟩
 | .aa,_,_,h=>by cases h
 | .br,_,_,h=>by cases h
 | .aq,_,_,h=>by cases h
 | .af,_,_,h=>by cases h
 | .aw,_,_,h=>by cases h
 | .ai,_,_,h=>by cases h
 | .aT,_,_,h=>by cases h
 | .oV,_,_,h=>by cases h
 | .Src,_,_,h=>by cases h
 | .eL,_,_,h=>by cases h
 | .ja,_,_,h=>by cases h
 | .Config,_,_,h=>by cases h
 | .iT,_,_,h=>by cases h
 | .Seen,_,_,h=>by cases h
 | .Message,_,_,h=>by cases h
 | .nO,_,_,h=>by cases h
 | .np,_,_,h=>by cases h
def ahK:List (Nat×Ty):=[(3,(Ty.i .i64)),(4,Ty.bool),(9,Ty.str),(27,(Ty.st .aa)),(33,(Ty.st .af)),(57,(Ty.st .br)),(64,(Ty.st .aw)),(66,(Ty.st .oV)),(175,(Ty.st .iT)),(191,(Ty.st .Message)),(214,(Ty.st .ja)),(258,(Ty.st .Claim))]
def aaN(n:Nat):List (Nat×Ty)->Option Ty
 |[]=>none
 |(k,t)::l=>(match Nat.beq k n with|true=>some t|false=>aaN n l)
@[reducible] def K:TK U where
 cr:=ahb
 dec:=ajr
 UN:=fun n=>aaN n ahK
 qn:=fun t v=>by
  cases t with
  |st n=>exact(Oq _ _ n.Jp).trans (n.N0 v).symm
  |_=>rfl
 lO:=fun t lk cs v h=>by
  cases t with
  |st n=>
   change (match z6 lk n.leaves cs with|some v=>some (n.ofL v)|none=>none)=some v at h
   split at h
   ·rename_i u hu;injection h with h
    subst h;have:=IJ hu
    change gU lk cs (n.pv (n.ofL u))
    rw[n.N0,n.ahL];exact this
   ·cases h
  |i k=>obtain⟨x,rfl,hx⟩:=EE h;exact uh hx
  |bool=>obtain⟨x,rfl,hx⟩:=EE h;exact uh hx
  |str=>obtain⟨x,rfl,hx⟩:=EE h;exact uh hx
  |sl t=>obtain⟨x,rfl,hx⟩:=EE h;exact uh hx
  |mp a b=>obtain⟨x,rfl,hx⟩:=EE h;exact uh hx
 len:=fun t v=>by
  cases t with
  |st n=>exact(congrArg List.length (n.N0 v)).trans (aa2 _ _ n.Jp)
  |_=>rfl
 gn:=fun t v y hy=>by
  cases t with
  |st n=>exact(Dp _ (n.toL v) n.Jp y (Eq.mp (congrArg (y∈·) (n.N0 v)) hy)).1
  |i k=>exact(oL (.i k) v rfl y hy).1
  |bool=>exact(oL .bool v rfl y hy).1
  |str=>exact(oL .str v rfl y hy).1
  |sl t=>exact(oL (.sl t) v rfl y hy).1
  |mp a b=>exact(oL (.mp a b) v rfl y hy).1
 one:=fun t h=>by
  cases t with
  |st n=>cases h
  |_=>rfl
 plain:=fun t h v y hy=>by
  cases t with
  |st n=>exact(Dp _ (n.toL v) n.Jp y (Eq.mp (congrArg (y∈·) (n.N0 v)) hy)).2 h
  |i k=>exact(oL (.i k) v rfl y hy).2 rfl
  |bool=>exact(oL .bool v rfl y hy).2 rfl
  |str=>exact(oL .str v rfl y hy).2 rfl
  |sl t=>cases h
  |mp a b=>cases h
 Rq:=fun t=>match t with| .st n=>Rq n|_=>none
 Jq:=fun t k l h=>by
  cases t with
  |st n=>exact⟨rfl,Jq n k l h⟩
  |_=>cases h
end Go.TQ
end
noncomputable section
namespace Go.TQ
open Go.RowKit
theorem vx{P:Program}(w:World)(dT sT ty elem:TypeId)(g o dLen dCap:Nat)(a:Addr)(sLen sCap:Nat)(cur:Array Value)(t:TypeId)(cs:List Value)(size n:Nat)
  (hu:P.underlying dT=some (.slice elem)) (hs:(P.info? elem).map (·.size)=some size)
  (hg:w.heap[g]?=some (.cells cur t (0,0))) (hn:n=Nat.min sLen dLen) (hcl:cs.length=n*size)
  (hsrc:∀(j:Nat) (v:Value),cs[j]?=some v->w.cell? (a.add j)=some v) (hfit:o+cs.length<=cur.size) (h1:∀v∈cs,v.oneCell'=true):
  (Builtin.copy_ #[dT,sT] ty #[.slice (some ⟨g,o,none⟩) dLen dCap,.slice (some a) sLen sCap]).run P w=
   .ok (goInt n) (w.setRow g (cur.toList.take o++cs++cur.toList.drop (o+cs.length)).toArray):=by
 have hl:=run_loadCells_list (P:=P) w a cs hsrc;have hst:=run_storeCells_at P g o t cs 0 cur w hg (by simpa using hfit) h1
 rw[hcl]at hl
 cases hq:P.info? elem with
 |none=>simp[hq]at hs
 |some i=>
  have hi:i.size=size:=by simpa[hq]using hs
  simp[Builtin.copy_,run_underlying hu,Builtin.lenOf,Builtin.firstCells,sizeOf,typeInfo,hq,hi,<-hn,hl,hst]
theorem XZ{w:World}{a:Addr}{v:Value}(h:w.cell? a=some v):∃t n,w.shape? a.block=some (t,n+1):=by
 unfold World.cell? at h;unfold World.shape?;split at h
 ·rename_i c t fr hc;split at h
  ·cases h
  ·have hlt:=(Array.getElem?_eq_some_iff.1 h).1;exact⟨t,c.size - 1,by simp only[Qf,Prod.mk.injEq,true_and];omega⟩
 ·cases h
theorem L0{P:Program}(w:World)(tS tR e:TypeId)(ht:P.underlying tS=some (.slice e))(size:Nat)(hz:∀w,(Go.sizeOf e).run P w= .ok size w)
  (a b:Addr) (la ca lb cb:Nat) (hne:a.block≠b.block) {v:Value} (ha:w.cell? a=some v) {cur:Array Value} {t:TypeId} (hb:w.heap[b.block]?=some (.cells cur t (0,0))) (h0:cur.size≠0):
  (Extern.SlicesOverlaps.overlaps #[tS,tS] #[tR] #[.slice (some a) la ca,.slice (some b) lb cb]).run P w= .ok (.bool false) w:=by
 obtain⟨tA,kA,hsa⟩:=XZ ha;have hsb:w.shape? b.block=some (t,cur.size):=by simp[World.shape?,hb]
 have hfb:w.frozen? b=false:=by simp[World.frozen?,hb]
 have hfe:w.frozen? {block:=b.block,off:=cur.size}=false:=by simp[World.frozen?,hb]
 have hnb:(a.block !=b.block)=true:=by simpa using hne
 have hnb':(a.block==b.block)=false:=by simpa using hne
 obtain⟨kB,hkB⟩:∃kB,cur.size=kB+1:=⟨cur.size - 1,by omega⟩
 rw[hkB]at hsb hfe
 change Sem.run P (α:=Value) (do
  let some t:=(#[tS,tS]:Array TypeId)[0]?|stuck "slices.overlaps: no parameter types"
  let .slice elem <-underlying t|stuck "slices.overlaps: slice type expected"
  let size <-sizeOf elem
  match(some a:Option Addr),(some b:Option Addr)with
  |some a,some b=>
   if la=0\/lb=0\/size=0 then pure (Value.bool false)
   else if a.block !=b.block&&(<-frozen a)&&(<-frozen b)then unsupported .addressObserved
   else do
    if a.block !=b.block then do
     noView a;noView b
     if<-mayBeOne a b then return Value.bool ((<-choose (.extern "sameAddr.stringBytes" 2))==1)
    pure (Value.bool (a.block==b.block&&a.off<b.off+lb*size&&b.off<a.off+la*size))
  |_,_=>pure (Value.bool false)) w=_
 by_cases h0:la=0\/lb=0\/size=0
 ·simp[run_underlying ht,hz,h0]
 ·cases hfa:w.frozen? a<;>cases hfk:w.frozen? {block:=a.block,off:=kA+1}<;>
   simp[run_underlying ht,hz,h0,hnb,hnb',frozen,noView,viewAt,mayBeOne,stringish,shape,Sem.run,hsa,hsb,hfa,hfk,hfb,hfe]
theorem ab8(a:Addr):a.add 0=a:=by
 cases a with
 |mk b o s=>unfold Addr.add;split<;>simp_all
theorem Gd(a:Addr)(n:Nat):(a.add n).block=a.block:=by unfold Addr.add;split<;>rfl
def qb{α:Type}(l:List α)(o:Nat)(c:List α):List α:=l.take o++c++l.drop (o+c.length)
theorem Fu{α:Type}{l:List α}{o:Nat}{c:List α}(h:o+c.length<=l.length):(qb l o c).length=l.length:=by simp[qb];omega
theorem ZD{α:Type}{l us ys:List α}{a:Nat}(h:a+us.length+ys.length<=l.length):qb (qb l a us) (a+us.length) ys=l.take a++us++ys++l.drop (a+us.length+ys.length):=by
 have h1:(l.take a++us).length=a+us.length:=by simp;omega
 have h2:(qb l a us).take (a+us.length)=l.take a++us:=by
  rw[qb,List.take_append_of_le_length (by omega),List.take_of_length_le (by omega)]
 have h3:(qb l a us).drop (a+us.length+ys.length)=l.drop (a+us.length+ys.length):=by
  rw[qb,<-List.drop_drop,<-h1,List.drop_left,List.drop_drop,h1]
 rw[qb,h2,h3]
theorem XH{α:Type}{l us ys:List α}{a:Nat}(h:a+us.length+ys.length<=l.length):qb (qb l (a+us.length) ys) a us=l.take a++us++ys++l.drop (a+us.length+ys.length):=by
 have h1:(l.take (a+us.length)).length=a+us.length:=by simp;omega
 have h2:(qb l (a+us.length) ys).take a=l.take a:=by
  rw[qb,QL,List.take_append_of_le_length (by omega),List.take_take,Nat.min_eq_left (by omega)]
 have h3:(qb l (a+us.length) ys).drop (a+us.length)=ys++l.drop (a+us.length+ys.length):=by
  conv=>lhs;rw[qb,QL]
  exact List.drop_left' h1
 rw[qb,h2,h3,QL,QL,QL]
theorem u0(w:World)(g:Nat)(cs:Array Value){b:Nat}(h:b≠g):(w.setRow g cs).heap[b]?=w.heap[b]?:=by
 simp only[World.setRow,Array.getElem?_modify];rw[Qs (fun e=>h e.symm)]
theorem Sg(w:World)(g:Nat)(cs:Array Value):Fr (some g) w (w.setRow g cs):=⟨rfl,rfl,rfl,by simp[World.setRow],fun b _ hb=>u0 w g cs (fun e=>hb (by rw[e])),QI _⟩
theorem Fr.aij(w:World)(rb:Option Nat):Fr rb w w.drew:=⟨rfl,rfl,rfl,QI _,fun _ _ _=>rfl,Nat.le_succ _⟩
theorem Fr.trans'{rb:Option Nat}{a b c:World}(h:Fr rb a b)(k:Fr rb b c):Fr rb a c:=⟨k.os.trans h.os,k.tape.trans h.tape,k.output.trans h.output,QK h.size k.size,fun i hi hne=>(k.block i (QJ hi h.size) hne).trans (h.block i hi hne),QK h.drawn k.drawn⟩
theorem Lm{w w':World}{v u:Value}{X:Nat->Prop}(hf:Fr (cm v) w w')(hu:∀b,cm u=some b->cm v=some b\/w.heap.size<=b):dI w w' (Mv v X) (Mv u X):=by
 have key:∀b,b<w.heap.size->¬Mv v X b->w'.heap[b]?=w.heap[b]?/\¬Mv u X b:=fun b hlt hM=>⟨hf.block b hlt fun h=>hM (.inl h),by
  rintro(h|h)
  ·rcases hu _ h with h|h
   ·exact hM (.inl h)
   ·omega
  ·exact hM (.inr h)⟩
 refine⟨fun a x hc hM=> ?_,fun b es ck hb hM=> ?_⟩
 ·have hlt:a.block<w.heap.size:=by
   by_cases h:a.block<w.heap.size
   ·exact h
   ·have:w.heap[a.block]?=none:=by rw[Array.getElem?_eq_none_iff];omega
    simp[World.cell?,this]at hc
  obtain⟨h1,h2⟩:=key _ hlt hM;exact⟨(World.cell?_of_block h1).trans hc,h2⟩
 ·obtain⟨h1,h2⟩:=key b (Array.getElem?_eq_some_iff.1 hb).1 hM;exact⟨h1.trans hb,h2⟩
theorem Vb{w:World}{M:Nat->Prop}{es:List (List PV)}{xs:List Value}(h:bg w M dg es.flatten xs)(h1:∀u∈es,u.all PV.one=true):∀x∈xs,x.oneCell'=true:=by
 intro x hx;obtain⟨q,hq,rfl⟩:=List.mem_iff_getElem.1 hx;have hl:q<es.flatten.length:=by rw[<-h.1];exact hq
 obtain⟨el,hel,hmem⟩:=List.mem_flatten.1 (Q0 hl);exact((h.2 q _ _ (Qv hl) (Qv hq)).one (QH.1 (h1 el hel) _ hmem)).1
structure adI (P:Program) (f S E I B ov k bytes:Nat):Prop where
 agU:0<k
 hS:P.underlying S=some (.slice E)
 hI:P.underlying I=some (.int .i64)
 agX:∃(i:TypeInfo) (z:Value),P.info? E=some i/\i.zero=some z/\z.cells.size=k/\i.size=k/\i.bytes=bytes
 Dl:∀(x:Array Value) (w:World),(Extern.SlicesOverlaps.overlaps #[S,S] #[B] x).run P w= .ok (.bool false) w->(callFunc ov x).run P w= .ok (.value (.bool false)) w
 CN:∀(g n c i:Nat),i<=n->n<=c->c<=9223372036854775807->∀(u:Option Addr) (vc:Nat) (w:World),
  Calls P f #[.slice (some ⟨g,0,none⟩) n c,.int .i64 i,.slice u 0 vc] w fun e w'=>e= .returned (.slice (some ⟨g,0,none⟩) n c)/\w'=w
 FD:∀(u:Option Addr) (vc:Nat) (w:World),Calls P f #[.slice none 0 0,.int .i64 0,.slice u 0 vc] w fun e w'=>e= .returned (.slice none 0 0)/\w'=w
 Pk:∀(g n c:Nat),n<=c->c<=9223372036854775807->∀(ad:Addr) (m vc:Nat),0<m->∀(w w1:World) (v1:Value),
  (∀ty,(Builtin.append_ #[S,S] ty #[.slice (some ⟨g,0,none⟩) n c,.slice (some ad) m vc]).run P w= .ok v1 w1)->
  Calls P f #[.slice (some ⟨g,0,none⟩) n c,.int .i64 n,.slice (some ad) m vc] w fun e w'=>e= .returned v1/\w'=w1
 Bb:∀(ad:Addr) (m vc:Nat),0<m->∀(w w1:World) (v1:Value),
  (∀ty,(Builtin.append_ #[S,S] ty #[.slice none 0 0,.slice (some ad) m vc]).run P w= .ok v1 w1)->
  Calls P f #[.slice none 0 0,.int .i64 0,.slice (some ad) m vc] w fun e w'=>e= .returned v1/\w'=w1
 shift:∀(g n c i:Nat),i<n->c<=9223372036854775807->∀(ad:Addr) (m vc:Nat),0<m->n+m<=c->∀(w w1 w2:World),
  (∀lb cb,(callFunc ov #[.slice (some ad) m vc,.slice (some ⟨g,(i+m)*k,none⟩) lb cb]).run P w= .ok (.value (.bool false)) w)->
  (∀ty dc sc,(Builtin.copy_ #[S,S] ty #[.slice (some ⟨g,(i+m)*k,none⟩) (n+m - (i+m)) dc,.slice (some ⟨g,i*k,none⟩) (n+m - i) sc]).run P w.drew= .ok (goInt (n - i:Nat)) w1)->
  (∀ty dc,(Builtin.copy_ #[S,S] ty #[.slice (some ⟨g,i*k,none⟩) (n+m - i) dc,.slice (some ad) m vc]).run P w1= .ok (goInt m) w2)->
  Calls P f #[.slice (some ⟨g,0,none⟩) n c,.int .i64 i,.slice (some ad) m vc] w fun e w'=>e= .returned (.slice (some ⟨g,0,none⟩) (n+m) c)/\w'=w2
 grow:∀(g n c i:Nat),i<n->n<=c->c<=9223372036854775807->∀(ad:Addr) (m vc:Nat),0<m->c<n+m->∀(N G:Nat),n+m<=G->G<=9223372036854775807->∀(w w1 w2 w3:World),
  (∀ty,(Builtin.append_ #[S,I] ty #[.slice (some ⟨g,0,none⟩) i c,.int .i64 ((n:Int)+(m:Int) - (i:Int))]).run P w= .ok (.slice (some ⟨N,0,none⟩) (n+m) G) w1)->
  (∀ty dc,(Builtin.copy_ #[S,S] ty #[.slice (some ⟨N,i*k,none⟩) (n+m - i) dc,.slice (some ad) m vc]).run P w1= .ok (goInt m) w2)->
  (∀ty dc sc,(Builtin.copy_ #[S,S] ty #[.slice (some ⟨N,(i+m)*k,none⟩) (n+m - (i+m)) dc,.slice (some ⟨g,i*k,none⟩) (n - i) sc]).run P w2.drew= .ok (goInt (n - i:Nat)) w3)->
  Calls P f #[.slice (some ⟨g,0,none⟩) n c,.int .i64 i,.slice (some ad) m vc] w fun e w'=>e= .returned (.slice (some ⟨N,0,none⟩) (n+m) G)/\w'=w3
theorem afs{P:Program}{E k bytes:Nat}(h:(P.info? E).map (fun i=>(i.zero.map (·.cells.size),i.size,i.bytes))=some (some k,k,bytes)):∃(i:TypeInfo) (z:Value),P.info? E=some i/\i.zero=some z/\z.cells.size=k/\i.size=k/\i.bytes=bytes:=by
 rw[Qb]at h;obtain⟨i,h1,h2⟩:=h;injection h2 with h2 h3
 injection h3 with h3 h4
 rw[Qb]at h2;obtain⟨z,h5,h6⟩:=h2;exact⟨i,z,h1,h5,h6,h3,h4⟩
theorem afr{P:Program}{f S E I B ov k bytes:Nat}(H:adI P f S E I B ov k bytes){es vs:List (List PV)}{i:Nat}(hi:i<=es.length)(h1e:∀u∈es,u.all PV.one=true)(hvs:∀u∈vs,u.length=k/\u.all PV.one=true)
  (hmax:es.length+vs.length<=maxLen) (hby:(es.length+vs.length)*bytes<=140737488355328):MW P f E k es [.int .i64 i,.sl vs] (es.take i++vs++es.drop i):=by
 have hk0:=H.agU;intro w X hX v args hvX ⟨xs,hown,hke,hr⟩ hargs;obtain⟨a1,args,rfl,ha1,hargs⟩:=hargs.cons_inv;obtain⟨a2,args,rfl,ha2,hargs⟩:=hargs.cons_inv;obtain rfl:=hargs.nq;obtain rfl:=ha1.fm;obtain⟨inf,z,hi1,hi2,hi3,hi4,hi5⟩:=H.agX;have hsz:(P.info? E).map (·.size)=some k:=by rw[hi1];simp[hi4]
 have hmem:∀u∈es.take i++vs++es.drop i,u.length=k:=by
  intro u hu;rw[Qz,Qz]at hu;rcases hu with(hu|hu)|hu
  ·exact hke u (Q1 hu)
  ·exact(hvs u hu).1
  ·exact hke u (Q2 hu)
 have same:vs=[]->es.take i++vs++es.drop i=es:=fun h=>by rw[h];simp
 by_cases hm0:vs=[]
 ·rw[same hm0]
  have hz:∃u vc,a2= .slice u 0 vc:=by
   subst hm0;rcases ha2.DX with⟨h,_⟩|⟨ad,c,_,_,h,_⟩
   ·exact⟨_,_,h⟩
   ·exact⟨_,_,h⟩
  obtain⟨u,vc,rfl⟩:=hz
  have post:∀(e:Ending) (w':World),e= .returned v/\w'=w->∃u,e= .returned u/\vJ w' (Mv u X) E k u es/\(∀b,cm u=some b->cm v=some b\/w.heap.size<=b)/\Fr (cm v) w w':=by
   rintro e w' ⟨rfl,rfl⟩;exact⟨v,rfl,⟨xs,hown,hke,hr⟩,fun b hb=> .inl hb,Fr.refl _ _⟩
  rcases hown.2 with⟨rfl,h0⟩|⟨g,cap,cur,rfl,_,hg,hnc,hcm,hcs,htk⟩
  ·obtain rfl:i=0:=by omega
   exact(H.FD u vc w).mono fun e w' h=>post e w' h
  ·exact(H.CN g es.length cap i hi hnc (by simp only[maxLen]at hcm;omega) u vc w).mono fun e w' h=>post e w' h
 ·
  have hm:0<vs.length:=List.length_pos_iff.2 hm0;rcases ha2.DX with⟨_,h⟩|⟨ad,vc,k',us,rfl,hk',hru,hcu,_,_⟩
  ·exact absurd h hm0
  have hul:us.length=vs.length*k:=by rw[hru.1,pD vs k fun u hu=>(hvs u hu).1]
  have hone:=Vb hru fun u hu=>(hvs u hu).2
  have hpos:0<us.length:=by rw[hul];exact Nat.mul_pos hm hk0
  obtain⟨c0,hc0⟩:∃c0,us[0]?=some c0:=⟨_,Qv hpos⟩;obtain⟨had,hadM⟩:=hcu 0 c0 hc0;have had:w.cell? ad=some c0:=by rw[ab8]at had;exact had
  have hcell:∀(j:Nat) (u:Value),us[j]?=some u->w.cell? (ad.add j)=some u:=fun j u hj=>(hcu j u hj).1
  have hadlt:ad.block<w.heap.size:=by
   by_cases h:ad.block<w.heap.size
   ·exact h
   ·have:w.heap[ad.block]?=none:=by rw[Array.getElem?_eq_none_iff];omega
    simp[World.cell?,this]at had
  have fin:∀(v1:Value) (w1:World),w1.ownsRow 0 E k v1 (es.length+vs.length) (xs++us)->w.grownBy w1 v.ownBlock->(v1.ownBlock=v.ownBlock\/v1.ownBlock=some w.heap.size)->(∃a n c,v= .slice a n c)->i=es.length->w.drawn<=w1.drawn->
    ∀(e:Ending) (w':World),e= .returned v1/\w'=w1->∃u,e= .returned u/\vJ w' (Mv u X) E k u (es.take i++vs++es.drop i)/\(∀b,cm u=some b->cm v=some b\/w.heap.size<=b)/\Fr (cm v) w w':=by
   rintro v1 w1 ho hgr hat ⟨a0,n0,c0,hv0⟩ hie hdr e w' ⟨rfl,rfl⟩;have hb0:v.ownBlock=cm v:=lM hv0
   have hb1:v1.ownBlock=cm v1:=by
    rcases ho.2 with⟨h,_⟩|⟨_,_,_,h,_⟩
    ·exact lM h
    ·exact lM h
   have hfr:Fr (cm v) w w':=⟨hgr.os,hgr.tape,hgr.output,hgr.size,fun b hb hne=>hgr.block b hb (fun h=>hne (by rw[<-hb0,<-h])),hdr⟩
   have hub:∀b,cm v1=some b->cm v=some b\/w.heap.size<=b:=fun b hb=>by
    rw[<-hb1]at hb;rcases hat with h|h
    ·exact .inl (by rw[<-hb0,<-h];exact hb)
    ·rw[h]at hb;injection hb with hb;exact .inr (by omega)
   have he:es.take i++vs++es.drop i=es++vs:=by subst hie;simp
   rw[he]at hmem ⊢;refine⟨v1,rfl,⟨xs++us,by rw[QB];exact ho,hmem,?_⟩,hub,hfr⟩
   rw[List.flatten_append];exact(hr.append hru).mono (Lm hfr hub) (dg.le _)
  rcases hown.2 with⟨rfl,h0⟩|⟨g,cap,cur,rfl,hb0,hg,hnc,hcm,hcs,htk⟩
  ·obtain rfl:i=0:=by omega
   obtain⟨v1,w1,r1,r2,r3,_,r5⟩:=run_append_own_at (P:=P) w 0 S 0 E inf z k bytes H.hS hi1 hi2 hi4 hi5 hi3 hk0 (.slice none 0 0) es.length xs hown ad vs.length vc us hul hcell hone hmax hby (QS _);exact(H.Bb ad vs.length vc hm w w1 v1 fun ty=>r1).mono fun e w' h=>fin v1 w1 r2 r3 r5 ⟨_,_,_,rfl⟩ h0.symm (B9 (P:=P) w 0 S 0 E inf z k bytes H.hS hi1 hi2 hi4 hi5 hk0 (.slice none 0 0) es.length xs hown ad vs.length vc us hul hcell hone hmax hby r1) e w' h
  ·have hcm':cap<=9223372036854775807:=by simp only[maxLen]at hcm;omega
   by_cases hie:i=es.length
   ·obtain⟨v1,w1,r1,r2,r3,_,r5⟩:=run_append_own_at (P:=P) w 0 S 0 E inf z k bytes H.hS hi1 hi2 hi4 hi5 hi3 hk0 _ es.length xs hown ad vs.length vc us hul hcell hone hmax hby (QS _);have:=H.Pk g es.length cap hnc hcm' ad vs.length vc hm w w1 v1 fun ty=>r1
    rw[<-hie]at this ⊢;exact this.mono fun e w' h=>fin v1 w1 r2 r3 r5 ⟨_,_,_,rfl⟩ hie (B9 (P:=P) w 0 S 0 E inf z k bytes H.hS hi1 hi2 hi4 hi5 hk0 _ es.length xs hown ad vs.length vc us hul hcell hone hmax hby r1) e w' h
   ·have hin:i<es.length:=by omega
    have hM:∀b,Mv (.slice (some ⟨g,0,none⟩) es.length cap) X b->True:=fun _ _=>trivial
    have hne:ad.block≠g:=fun h=>hadM (.inl (by rw[h];rfl))
    have hglt:g<w.heap.size:=(Array.getElem?_eq_some_iff.1 hg).1;have hxl:xs.length=es.length*k:=hown.1;have hcl:es.length*k<=cur.toList.length:=by simpa[hcs]using Nat.mul_le_mul_right k hnc
    have hx1:=Vb hr h1e;obtain⟨ys,hys⟩:∃ys,ys=xs.drop (i*k):=⟨_,rfl⟩;have hyl:ys.length=(es.length - i)*k:=by rw[hys,List.length_drop,hxl,Nat.sub_mul]
    have hy1:∀y∈ys,y.oneCell'=true:=fun y hy=>hx1 y (Q2 (hys▸hy))
    have hcx:∀(j:Nat) (u:Value),xs[j]?=some u->w.cell? ⟨g,j,none⟩=some u:=fun j u hj=>by
     refine oR hg ?_;rw[<-htk,List.getElem?_take]at hj;split at hj
     ·exact hj
     ·cases hj
    have hcy:∀(j:Nat) (u:Value),ys[j]?=some u->w.cell? ((⟨g,i*k,none⟩:Addr).add j)=some u:=fun j u hj=>by
     rw[add_mid];rw[hys,List.getElem?_drop]at hj;exact hcx _ u hj
    have hik:i*k+us.length=(i+vs.length)*k:=by rw[hul,Nat.add_mul]
    have htot:i*k+us.length+ys.length=(es.length+vs.length)*k:=by
     rw[hul,hyl,<-Nat.add_mul,<-Nat.add_mul];congr 1;omega
    have hres:bg w (Mv (.slice (some ⟨g,0,none⟩) es.length cap) X) dg (es.take i++vs++es.drop i).flatten (xs.take (i*k)++us++ys):=by
     rw[List.flatten_append,List.flatten_append,tj k i es hke,xR k i es hke,hys];exact((hr.take _).append hru).append (hr.drop _)
    have hlen:(es.take i++vs++es.drop i).length=es.length+vs.length:=by simp;omega
    have htl:(xs.take (i*k)++us++ys).length=(es.length+vs.length)*k:=by
     rw[QB,QB,List.length_take,hxl,Nat.min_eq_left (Nat.mul_le_mul_right k hi)];exact htot
    by_cases hroom:es.length+vs.length<=cap
    ·
     have hfit:(es.length+vs.length)*k<=cur.toList.length:=by simpa[hcs]using Nat.mul_le_mul_right k hroom
     have r1:=vx (P:=P) w.drew S S 0 E g ((i+vs.length)*k) (es.length+vs.length - (i+vs.length)) 0 ⟨g,i*k,none⟩ (es.length+vs.length - i) 0 cur E ys k (es.length - i) H.hS hsz hg
      (by simp only[Nat.min_def];split<;>omega) hyl hcy (by simp only[Array.length_toList]at hfit;omega) hy1
     obtain⟨cur1,hcur1⟩:∃cur1:Array Value,cur1=(qb cur.toList ((i+vs.length)*k) ys).toArray:=⟨_,rfl⟩;have hg1:(w.drew.setRow g cur1).heap[g]?=some (.cells cur1 E (0,0)):=setRow_heap w.drew g cur _ E _ hg
     have hl1:cur1.size=cap*k:=by
      rw[hcur1,List.size_toArray,Fu (by rw[<-hik];omega),Array.length_toList,hcs]
     have r2:=vx (P:=P) (w.drew.setRow g cur1) S S 0 E g (i*k) (es.length+vs.length - i) 0 ad vs.length vc cur1 E us k vs.length H.hS hsz hg1
      (by simp only[Nat.min_def];split<;>omega) hul (fun j u hj=>by rw[World.cell?_of_block (w:=w) (u0 w.drew g cur1 (by rw[Gd];exact hne))];exact hcell j u hj)
      (by rw[hl1,<-hcs,<-Array.length_toList];omega) hone
     obtain⟨cur2,hcur2⟩:∃cur2:Array Value,cur2=(qb cur1.toList (i*k) us).toArray:=⟨_,rfl⟩;have hg2:((w.drew.setRow g cur1).setRow g cur2).heap[g]?=some (.cells cur2 E (0,0)):=setRow_heap _ g cur1 _ E _ hg1
     have hc2:cur2.toList=xs.take (i*k)++us++ys++cur.toList.drop ((es.length+vs.length)*k):=by
      rw[hcur2,hcur1,<-hik,XH (by omega),htot,<-htk,List.take_take,Nat.min_eq_left (Nat.mul_le_mul_right k hi)]
     have hC:cur.toList.length=cap*k:=(Array.length_toList (xs:=cur)).trans hcs;have hL1:cur1.toList.length=cap*k:=(Array.length_toList (xs:=cur1)).trans hl1;have hfr:Fr (some g) w ((w.drew.setRow g cur1).setRow g cur2):=(Fr.aij w _).trans' ((Sg _ g _).trans' (Sg _ g _))
     have hcap0:cur.size≠0:=by
      have:0<cap:=by omega
      rw[hcs];exact Nat.ne_of_gt (Nat.mul_pos this hk0)
     refine(H.shift g es.length cap i hin hcm' ad vs.length vc hm hroom w (w.drew.setRow g cur1) ((w.drew.setRow g cur1).setRow g cur2) (fun lb cb=> ?_) (fun ty dc sc=> ?_) (fun ty dc=> ?_)).mono ?_
     ·exact H.Dl _ w (L0 w S B E H.hS k (fun w'=>by simp[Go.sizeOf,typeInfo,hi1,hi4]) ad ⟨g,(i+vs.length)*k,none⟩ vs.length vc lb cb hne had hg hcap0)
     ·rw[hcur1];exact r1
     ·rw[hcur2];exact r2
     ·rintro e w' ⟨rfl,rfl⟩;refine⟨_,rfl,⟨xs.take (i*k)++us++ys,⟨?_,.inr ⟨g,cap,cur2,by rw[hlen],hb0,hg2,by rw[hlen];exact hroom,hcm,?_,?_⟩⟩,hmem,hres.mono (@Lm w _ (.slice (some ⟨g,0,none⟩) es.length cap) (.slice (some ⟨g,0,none⟩) (es.length+vs.length) cap) X hfr fun b hb=> .inl hb) (dg.le _)⟩,fun b hb=> .inl hb,hfr⟩
      ·rw[htl,hlen]
      ·rw[hcur2,List.size_toArray,Fu (by rw[hL1];omega),hL1]
      ·rw[hlen,hc2,<-htl,List.take_left' rfl]
    ·
     have hik2:i+(es.length+vs.length - i)=es.length+vs.length:=by omega
     have hold:(Builtin.firstCells inf.size i (.slice (some ⟨g,0,none⟩) i cap)).run P w.drew= .ok (xs.take (i*k)).toArray w.drew:=by
      rw[hi4];refine run_firstCells_some w.drew k i ⟨g,0,none⟩ i cap (xs.take (i*k)) (by rw[List.length_take,hxl];exact Nat.min_eq_left (Nat.mul_le_mul_right k hi)) fun j u hj=> ?_
      rw[add_mid,Nat.zero_add];rw[List.getElem?_take]at hj;split at hj
      ·exact hcx j u hj
      ·cases hj
     have hmax':es.length+vs.length<=9223372036854775807:=by simp only[maxLen]at hmax;omega
     have r0:=fun ty=>Lib.run_append_grow_zeros (P:=P) w S I ty E inf z .i64 .i64 H.hS H.hI hi1 hi2 (some ⟨g,0,none⟩) i cap (xs.take (i*k)) hold (es.length+vs.length - i) (by omega) (by omega) (by omega) (by omega)
      (by rw[hi5];have:=Nat.mul_le_mul_right bytes (show es.length+vs.length - i<=es.length+vs.length by omega);omega) (by rw[hi5,hik2];exact growslice_fits (by omega) hby)
     rw[hik2]at r0;obtain⟨G,hG⟩:∃G,G=grownCap w (es.length+vs.length) cap E:=⟨_,rfl⟩;have hGn:es.length+vs.length<=G:=by rw[hG];exact grownCap_ge w _ _ _
     have hGm:G<=maxLen:=by rw[hG];exact grownCap_le_maxLen w _ _ _ hmax
     have hG63:G<=9223372036854775807:=by simp only[maxLen]at hGm;omega
     rw[<-hG]at r0;obtain⟨row,hrow⟩:∃row:Array Value,row=(xs.take (i*k)).toArray++Builtin.zeroCells z.cells (es.length+vs.length - i)++Builtin.zeroCells z.cells (G - (es.length+vs.length)):=⟨_,rfl⟩;rw[<-hrow]at r0;have hrt:(xs.take (i*k)).length=i*k:=by rw[List.length_take,hxl];exact Nat.min_eq_left (Nat.mul_le_mul_right k hi)
     have hrl:row.size=G*k:=by
      rw[hrow,Array.size_append,Array.size_append,List.size_toArray,hrt,size_zeroCells,size_zeroCells,hi3,<-Nat.add_mul,<-Nat.add_mul];congr 1;omega
     have hrtake:row.toList.take (i*k)=xs.take (i*k):=by
      rw[hrow,Array.toList_append,Array.toList_append,QL];exact List.take_left' hrt
     have hN:(w.drew.alloc (.cells row E)).heap[w.heap.size]?=some (.cells row E (0,0)):=by
      show(w.heap.push (.cells row E))[w.heap.size]?=_;simp
     have hkeep:∀b,b<w.heap.size->(w.drew.alloc (.cells row E)).heap[b]?=w.heap[b]?:=fun b hb=>Below.heap_alloc w.drew _ b hb
     have hfit:(es.length+vs.length)*k<=row.size:=by rw[hrl];exact Nat.mul_le_mul_right k hGn
     have r1:=vx (P:=P) (w.drew.alloc (.cells row E)) S S 0 E w.heap.size (i*k) (es.length+vs.length - i) 0 ad vs.length vc row E us k vs.length H.hS hsz hN
      (by simp only[Nat.min_def];split<;>omega) hul (fun j u hj=>by rw[World.cell?_of_block (w:=w) (hkeep _ (by rw[Gd];exact hadlt))];exact hcell j u hj) (by omega) hone
     have hR:row.toList.length=G*k:=(Array.length_toList (xs:=row)).trans hrl;obtain⟨cur1,hcur1⟩:∃cur1:Array Value,cur1=(qb row.toList (i*k) us).toArray:=⟨_,rfl⟩;have hl1:cur1.size=G*k:=by rw[hcur1,List.size_toArray,Fu (by rw[hR];omega),hR]
     have hL1:cur1.toList.length=G*k:=(Array.length_toList (xs:=cur1)).trans hl1;have hg1:((w.drew.alloc (.cells row E)).setRow w.heap.size cur1).drew.heap[w.heap.size]?=some (.cells cur1 E (0,0)):=setRow_heap _ _ row _ E _ hN
     have r2:=vx (P:=P) ((w.drew.alloc (.cells row E)).setRow w.heap.size cur1).drew S S 0 E w.heap.size ((i+vs.length)*k) (es.length+vs.length - (i+vs.length)) 0 ⟨g,i*k,none⟩ (es.length - i) 0 cur1 E ys k (es.length - i) H.hS hsz hg1
      (by simp only[Nat.min_def];split<;>omega) hyl (fun j u hj=>by
       rw[World.cell?_of_block (w:=w) (w':=((w.drew.alloc (.cells row E)).setRow w.heap.size cur1).drew) (((u0 _ w.heap.size cur1 (by rw[Gd];exact Nat.ne_of_lt hglt)).trans (hkeep _ (by rw[Gd];exact hglt))))]
       exact hcy j u hj) (by rw[hl1,<-hrl,<-hik];omega) hy1
     obtain⟨cur2,hcur2⟩:∃cur2:Array Value,cur2=(qb cur1.toList ((i+vs.length)*k) ys).toArray:=⟨_,rfl⟩;obtain⟨w3,hw3⟩:∃w3,w3=((w.drew.alloc (.cells row E)).setRow w.heap.size cur1).drew.setRow w.heap.size cur2:=⟨_,rfl⟩;have hg2:w3.heap[w.heap.size]?=some (.cells cur2 E (0,0)):=by rw[hw3];exact setRow_heap _ _ cur1 _ E _ hg1
     have hc2:cur2.toList=xs.take (i*k)++us++ys++row.toList.drop ((es.length+vs.length)*k):=by
      rw[hcur2,hcur1,<-hik,ZD (by rw[hR];omega),htot,hrtake]
     have hfr:Fr (some g) w w3:=by
      rw[hw3];refine⟨rfl,rfl,rfl,by simp[World.setRow],fun b hb _=> ?_,by show w.drawn<=w.drawn+1+1;omega⟩
      rw[u0 _ _ _ (Nat.ne_of_lt hb)];exact(u0 _ w.heap.size cur1 (Nat.ne_of_lt hb)).trans (hkeep b hb)
     refine(H.grow g es.length cap i hin hnc hcm' ad vs.length vc hm (by omega) w.heap.size G hGn hG63 w (w.drew.alloc (.cells row E)) ((w.drew.alloc (.cells row E)).setRow w.heap.size cur1) w3 (fun ty=> ?_) (fun ty dc=> ?_) (fun ty dc sc=> ?_)).mono ?_
     ·have:=r0 ty;rw[show((es.length+vs.length - i:Nat):Int)=(es.length:Int)+(vs.length:Int) - (i:Int)by omega]at this
      exact this
     ·rw[hcur1];exact r1
     ·rw[hw3,hcur2];exact r2
     ·rintro e w' ⟨rfl,rfl⟩
      have hub:∀b,cm (.slice (some ⟨w.heap.size,0,none⟩) (es.length+vs.length) G)=some b->cm (.slice (some ⟨g,0,none⟩) es.length cap)=some b\/w.heap.size<=b:=fun b hb=>by
       injection hb with hb
       exact .inr (Nat.le_of_eq hb)
      refine⟨_,rfl,⟨xs.take (i*k)++us++ys,⟨?_,.inr ⟨w.heap.size,G,cur2,by rw[hlen],QS _,hg2,by rw[hlen];exact hGn,hGm,?_,?_⟩⟩,hmem,hres.mono (@Lm w _ (.slice (some ⟨g,0,none⟩) es.length cap) (.slice (some ⟨w.heap.size,0,none⟩) (es.length+vs.length) G) X hfr hub) (dg.le _)⟩,hub,hfr⟩
      ·rw[htl,hlen]
      ·rw[hcur2,List.size_toArray,Fu (by rw[hL1,<-hik];omega),hL1]
      ·rw[hlen,hc2,<-htl,List.take_left' rfl]
end Go.TQ
end
noncomputable section
namespace Go.Proofs.YtjbfdglebjnelaaGreat
open Go.RowKit Go.TQ Go.Lib
namespace Wd
theorem zE:∀w:World,(Go.sizeOf 9).run Tryz.prog w= .ok 1 w:=fun _=>by kernel_rfl
set_option maxHeartbeats 4000000 in
set_option maxRecDepth 100000 in
theorem CN(g n c i:Nat)(hi:i<=n)(hc:n<=c)(hc63:c<=9223372036854775807)(u:Option Addr)(vc:Nat)(w:World):
  Calls Tryz.prog 224 #[.slice (some ⟨g,0,none⟩) n c,.int .i64 i,.slice u 0 vc] w fun e w'=>e= .returned (.slice (some ⟨g,0,none⟩) n c)/\w'=w:=by
 have zE:=zE;have uS:=run_underlying Tryz.underlying28
 go_enter Tryz.func224,Tryz.ntmps224
 go_wp2
 all_goals go_ret
 all_goals exact⟨rfl,rfl⟩
set_option maxHeartbeats 4000000 in
set_option maxRecDepth 100000 in
theorem FD(u:Option Addr)(vc:Nat)(w:World):
  Calls Tryz.prog 224 #[.slice none 0 0,.int .i64 0,.slice u 0 vc] w fun e w'=>e= .returned (.slice none 0 0)/\w'=w:=by
 have zE:=zE;have uS:=run_underlying Tryz.underlying28
 go_enter Tryz.func224,Tryz.ntmps224
 go_wp2
 all_goals go_ret
 all_goals exact⟨rfl,rfl⟩
set_option maxHeartbeats 4000000 in
set_option maxRecDepth 100000 in
theorem Pk(g n c:Nat)(hc:n<=c)(hc63:c<=9223372036854775807)(ad:Addr)(m vc:Nat)(hm:0<m)(w w1:World)(v1:Value)
  (hr:∀ty,(Builtin.append_ #[28,28] ty #[.slice (some ⟨g,0,none⟩) n c,.slice (some ad) m vc]).run Tryz.prog w= .ok v1 w1):
  Calls Tryz.prog 224 #[.slice (some ⟨g,0,none⟩) n c,.int .i64 n,.slice (some ad) m vc] w fun e w'=>e= .returned v1/\w'=w1:=by
 have zE:=zE;have uS:=run_underlying Tryz.underlying28;have hz1:¬((m:Int)=0):=by omega
 go_enter Tryz.func224,Tryz.ntmps224
 go_wp2_with (at_builtin;refine Lib.wpList_append_run _ rfl _ _ _ _ rfl _ _ rfl rfl _ _ (hr _) ?_)
 all_goals go_ret
 all_goals exact⟨rfl,rfl⟩
set_option maxHeartbeats 4000000 in
set_option maxRecDepth 100000 in
theorem Bb(ad:Addr)(m vc:Nat)(hm:0<m)(w w1:World)(v1:Value)
  (hr:∀ty,(Builtin.append_ #[28,28] ty #[.slice none 0 0,.slice (some ad) m vc]).run Tryz.prog w= .ok v1 w1):
  Calls Tryz.prog 224 #[.slice none 0 0,.int .i64 0,.slice (some ad) m vc] w fun e w'=>e= .returned v1/\w'=w1:=by
 have zE:=zE;have uS:=run_underlying Tryz.underlying28;have hz1:¬((m:Int)=0):=by omega
 go_enter Tryz.func224,Tryz.ntmps224
 go_wp2_with (at_builtin;refine Lib.wpList_append_run _ rfl _ _ _ _ rfl _ _ rfl rfl _ _ (hr _) ?_)
 all_goals go_ret
 all_goals exact⟨rfl,rfl⟩
set_option maxHeartbeats 4000000 in
set_option maxRecDepth 100000 in
theorem shift(g n c i:Nat)(hi:i<n)(hc63:c<=9223372036854775807)(ad:Addr)(m vc:Nat)(hm:0<m)(hroom:n+m<=c)(w w1 w2:World)
  (hov:∀lb cb,(callFunc 257 #[.slice (some ad) m vc,.slice (some ⟨g,(i+m)*1,none⟩) lb cb]).run Tryz.prog w= .ok (.value (.bool false)) w)
  (h1:∀ty dc sc,(Builtin.copy_ #[28,28] ty #[.slice (some ⟨g,(i+m)*1,none⟩) (n+m - (i+m)) dc,.slice (some ⟨g,i*1,none⟩) (n+m - i) sc]).run Tryz.prog w.drew= .ok (goInt (n - i:Nat)) w1)
  (h2:∀ty dc,(Builtin.copy_ #[28,28] ty #[.slice (some ⟨g,i*1,none⟩) (n+m - i) dc,.slice (some ad) m vc]).run Tryz.prog w1= .ok (goInt m) w2):
  Calls Tryz.prog 224 #[.slice (some ⟨g,0,none⟩) n c,.int .i64 i,.slice (some ad) m vc] w fun e w'=>e= .returned (.slice (some ⟨g,0,none⟩) (n+m) c)/\w'=w2:=by
 have zE:=zE;have uS:=run_underlying Tryz.underlying28;have hz1:¬((m:Int)=0):=by omega
 have hz2:¬((i:Int)=(n:Int)):=by omega
 have mixed:Tryz.prog.follows .mixedOrders=true:=by kernel_rfl
 have hw1:IntKind.i64.wrap ((i:Int)+(m:Int))=(i:Int)+(m:Int):=by rw[IntKind.wrap_i64];omega
 have hb1:(0:Int)<=(i:Int)+(m:Int):=by omega
 have hin:i<=n:=by omega
 have htn:((i:Int)+(m:Int)).toNat=i+m:=by omega
 have hb2:¬(c=i+m):=by omega
 have hb3:(i:Int)<=(n:Int)+(m:Int):=by omega
 have hb4:¬(c=i):=by omega
 simp only[Nat.mul_one]at hov h1 h2
 go_enter Tryz.func224,Tryz.ntmps224
 go_wp2_with (simp only[hov])
 go_region_law_o (refine step_copy_runI rfl _ _ 28 28 rfl _ _ (by simp[Act.eval,Act.put]) (by simp[Act.eval,Act.put]) (h1 _ _ _) ?_)
 go_wp2_with (at_builtin;refine wpList_copy_runI _ rfl _ _ 28 28 rfl _ _ rfl rfl (h2 _ _) ?_)
 go_ret
 exact⟨rfl,rfl⟩
set_option maxHeartbeats 4000000 in
set_option maxRecDepth 100000 in
theorem grow(g n c i:Nat)(hi:i<n)(hc:n<=c)(hc63:c<=9223372036854775807)(ad:Addr)(m vc:Nat)(hm:0<m)(hroom:c<n+m)(N G:Nat)(hGn:n+m<=G)(hG63:G<=9223372036854775807)(w w1 w2 w3:World)
  (hz:∀ty,(Builtin.append_ #[28,3] ty #[.slice (some ⟨g,0,none⟩) i c,.int .i64 ((n:Int)+(m:Int) - (i:Int))]).run Tryz.prog w= .ok (.slice (some ⟨N,0,none⟩) (n+m) G) w1)
  (h1:∀ty dc,(Builtin.copy_ #[28,28] ty #[.slice (some ⟨N,i*1,none⟩) (n+m - i) dc,.slice (some ad) m vc]).run Tryz.prog w1= .ok (goInt m) w2)
  (h2:∀ty dc sc,(Builtin.copy_ #[28,28] ty #[.slice (some ⟨N,(i+m)*1,none⟩) (n+m - (i+m)) dc,.slice (some ⟨g,i*1,none⟩) (n - i) sc]).run Tryz.prog w2.drew= .ok (goInt (n - i:Nat)) w3):
  Calls Tryz.prog 224 #[.slice (some ⟨g,0,none⟩) n c,.int .i64 i,.slice (some ad) m vc] w fun e w'=>e= .returned (.slice (some ⟨N,0,none⟩) (n+m) G)/\w'=w3:=by
 have zE:=zE;have uS:=run_underlying Tryz.underlying28;have hz1:¬((m:Int)=0):=by omega
 have hz2:¬((i:Int)=(n:Int)):=by omega
 have hz3:(c:Int)<(n:Int)+(m:Int):=by omega
 have mixed:Tryz.prog.follows .mixedOrders=true:=by kernel_rfl
 have hw1:IntKind.i64.wrap ((i:Int)+(m:Int))=(i:Int)+(m:Int):=by rw[IntKind.wrap_i64];omega
 have hb1:(0:Int)<=(i:Int)+(m:Int):=by omega
 have hin:i<=n:=by omega
 have htn:((i:Int)+(m:Int)).toNat=i+m:=by omega
 have hb3:(i:Int)<=(n:Int):=by omega
 have hGi:¬(G=i):=by omega
 have hGim:¬(G=i+m):=by omega
 have hci:¬(c=i):=by omega
 simp only[Nat.mul_one]at h1 h2
 go_enter Tryz.func224,Tryz.ntmps224
 go_wp2_with (first
  |(at_builtin;refine Lib.wpList_append_run _ rfl _ _ _ _ rfl _ _ rfl rfl _ _ (hz _) ?_)
  |(at_builtin;refine wpList_copy_runI _ rfl _ _ 28 28 rfl _ _ rfl rfl (h1 _ _) ?_))
 go_region_law_o (refine step_copy_runI rfl _ _ 28 28 rfl (.slice (some ⟨N,i+m,none⟩) (n+m - (i+m)) (G - (i+m))) (.slice (some ⟨g,i,none⟩) (n - i) (c - i)) (by simp[Act.eval,Act.put]) (by simp[Act.eval,Act.put]) (h2 3 (G - (i+m)) (c - i)) ?_)
 go_wp2
 go_ret
 exact⟨rfl,rfl⟩
theorem ways:adI Tryz.prog 224 28 9 3 4 257 1 16 where
 agU:=by decide
 hS:=Tryz.underlying28
 hI:=Tryz.underlying3
 agX:=afs (by kernel_rfl)
 Dl:=fun x w h=>by
  rw[run_callFunc_extern Tryz.func257 (by kernel_rfl) (by kernel_rfl) (by kernel_rfl) (e:=Extern.SlicesOverlaps.overlaps #[28,28] #[4]) (by kernel_rfl),h]
  rfl
 CN:=CN
 FD:=FD
 Pk:=Pk
 Bb:=Bb
 shift:=shift
 grow:=grow
theorem enters:Go.TQ.Enters Tryz.prog 224:=⟨Tryz.f224,Tryz.func224,by kernel_rfl,by kernel_rfl⟩
end Wd
end Go.Proofs.YtjbfdglebjnelaaGreat
end
noncomputable section
namespace Go.TQ
def Wb{α:Type}(bytes:Nat)(s:List α)(i:Int)(v:List α):Option (List α):=bif decide (0<=i)&&decide (i<=((s.length:Nat):Int))&&bc bytes (s.length+v.length)then some (s.take i.toNat++v++s.drop i.toNat)else none
theorem dR{P:Program}{f S E I B ov k bytes:Nat}(H:adI P f S E I B ov k bytes)(hent:Enters P f){T:Ty}(hk:∀x:T.den,(T.pv x).length=k):
  dw.Sound P (U:=U) (.cw f E k T [.ty (Ty.i .i64),.ty (Ty.sl T)] fun s a=>Wb bytes s a.1 a.2.1):=by
 refine⟨hent,fun xs a ys h=> ?_⟩
 suffices key:∀(i:Int) (v:List T.den) (ys:List T.den),Wb bytes xs i v=some ys->MW P f E k (xs.map T.pv) [.int .i64 i,.sl (v.map T.pv)] (ys.map T.pv)from key a.1 a.2.1 ys h
 clear h;intro i v ys h;unfold Wb at h
 cases hc:(decide (0<=i)&&decide (i<=((xs.length:Nat):Int))&&bc bytes (xs.length+v.length))with
 |false=>rw[hc]at h;cases h
 |true=>
  rw[hc]at h;injection h with h
  subst h;simp only[Qm,Qi]at hc;obtain⟨⟨h0,h1⟩,h2⟩:=hc;obtain⟨h3,h4⟩:=A2 h2;have hone:∀x:T.den,(T.pv x).all PV.one=true:=fun x=>QH.2 fun y hy=>Wh (K.gn T x y hy)
  have:=afr H (es:=xs.map T.pv) (vs:=v.map T.pv) (i:=i.toNat) (by rw[QC];omega)
   (fun u hu=>by obtain⟨x,_,rfl⟩:=QP.1 hu;exact hone x) (fun u hu=>by obtain⟨x,_,rfl⟩:=QP.1 hu;exact⟨hk x,hone x⟩)
   (by rw[QC,QC];exact h4) (by rw[QC,QC];exact h3)
  rw[<-List.map_take,<-List.map_drop,<-List.map_append,<-List.map_append,show((i.toNat:Nat):Int)=i by omega]at this
  exact this
end Go.TQ
end
noncomputable section
namespace Go.TQ
open Go.Proofs Go.Sort Go.RowKit Go.Lib
def xo:PV->Bool
 | .int _ _=>true
 | .str _=>true
 | .bool _=>true
 |_=>false
def oH:PV->Value
 | .int k n=> .int k n
 | .str s=> .string s
 | .bool b=> .bool b
 |_=>undef
theorem H4{w:World}{M:Nat->Prop}{G:Gh}{x:PV}(h:xo x=true):bf w M G x (oH x):=by
 cases x<;>first|exact .int _ _|exact .str _|exact .bool _|exact absurd h (by simp[xo])
theorem aa7{w:World}{M:Nat->Prop}{G:Gh}{x:PV}{v:Value}(h:xo x=true)(hr:bf w M G x v):v=oH x:=by
 cases x<;>first|(cases hr;rfl)|exact absurd h (by simp[xo])
theorem Sz{x:PV}(h:xo x=true):(oH x).oneCell'=true:=by
 cases x<;>first|rfl|exact absurd h (by simp[xo])
theorem N2{w:World}{M:Nat->Prop}{G:Gh}:∀{xs:List PV} {vs:List Value},xs.all xo=true->bg w M G xs vs->vs=xs.map oH
 |[],vs,_,hr=>hr.nq
 |x::xs,vs,h,hr=>by
  obtain⟨v,vs',rfl,r1,r2⟩:=hr.cons_inv;rw[List.all_cons,Qm]at h;rw[QD,<-aa7 h.1 r1,<-N2 h.2 r2]
theorem N1{w:World}{M:Nat->Prop}{G:Gh}:∀{xs:List PV},xs.all xo=true->bg w M G xs (xs.map oH)
 |[],_=> .nil
 |x::xs,h=>by
  rw[List.all_cons,Qm]at h;exact .cons (H4 h.1) (N1 h.2)
theorem afI{w w':World}(h:Fr none w w'):∃q os,w'=grow (w.drewN q) os:=by
 refine⟨w'.drawn - w.drawn,w'.heap.extract w.heap.size w'.heap.size,?_⟩;have hs:=h.size
 have hh:w'.heap=w.heap++w'.heap.extract w.heap.size w'.heap.size:=by
  apply Array.ext_getElem?;intro k;rw[Array.getElem?_append];split
  ·rename_i hk;exact h.block k hk (by simp)
  ·rename_i hk;rw[Array.getElem?_extract];split
   ·rw[show w.heap.size+(k - w.heap.size)=k by omega]
   ·exact Array.getElem?_eq_none (by omega)
 have h1:=h.os;have h2:=h.tape;have h3:=h.output;have h4:=h.drawn
 cases w' with|mk hp tp dr os out=>
 cases w with|mk hp' tp' dr' os' out'=>
 simp only at h1 h2 h3 h4 hh;subst h1 h2 h3;unfold grow World.drewN;simp only;rw[<-hh,show dr'+(dr - dr')=dr by omega]
theorem Vq{w:World}{b n:Nat}{F:Array Value}{os:Array Obj}{cur:Array Value}{e:TypeId}{fr:Nat×Nat}(hb:w.heap[b]?=some (.cells cur e fr)):
  (grow (putRow id (Sort.ahead w n) b 0 F) os).heap[b]?=some (.cells (putCells id 0 F cur) e fr):=by
 have hlt:b<w.heap.size:=(Array.getElem?_eq_some_iff.1 hb).1;unfold grow putRow mapBlock Sort.ahead;simp only;rw[Array.getElem?_append_left (by simp;exact hlt),Array.getElem?_modify,Qr rfl,hb]
 rfl
theorem aa4{w:World}{b n:Nat}{F:Array Value}{os:Array Obj}:Fr (some b) w (grow (putRow id (Sort.ahead w n) b 0 F) os):=by
 refine⟨rfl,rfl,rfl,?_,fun q hq hne=> ?_,Nat.le_add_right _ _⟩
 ·unfold grow putRow mapBlock Sort.ahead;simp only[Array.size_append,Array.size_modify];omega
 ·have hqb:¬b=q:=fun e=>hne (by rw[e])
  unfold grow putRow mapBlock Sort.ahead;simp only;rw[Array.getElem?_append_left (by simp;exact hq),Array.getElem?_modify,Qs hqb]
theorem Sv{F cur:Array Value}(h:F.size<=cur.size):(putCells id 0 F cur).toList=F.toList++cur.toList.drop F.size:=by
 apply List.ext_getElem?;intro i;rw[Array.getElem?_toList];unfold putCells;rw[Array.getElem?_mapIdx,List.getElem?_append];simp only[Array.length_toList,QS,true_and,Nat.zero_add,Nat.sub_zero,id]
 by_cases hi:i<F.size
 ·rw[Qr hi,Array.getElem?_toList,Array.getElem?_eq_getElem (show i<cur.size by omega),Array.getElem?_eq_getElem hi,Qe,Qr hi,getElem!_pos F i hi]
 ·rw[Qs hi,List.getElem?_drop,Array.getElem?_toList,show F.size+(i - F.size)=i by omega]
  cases cur[i]? with
  |none=>rfl
  |some y=>rw[Qe,Qs hi]
def Xg(P:Program)(f k:Nat):Prop:=∀(α:Type) [Inhabited α] (cr:α->List Value) (_:∀x,(cr x).length=k) (_:∀x,∀v∈cr x,v.oneCell'=true) (cf:α->α->Int) (_:Go.Sort.SWO (ltOf cf)) (g:Nat) (cb:Array Value) (cm off cap:Nat) (d:Array α) (w:World)
  (_:∀args w,(callFunc g args).run P w= .ok (.enter g args) w) (_:CmpLays P g cb cr k cf cm off d.size w) (_:HoldsK cr k w cm off d) (_:cm<w.heap.size) (_:d.size<4611686018427387904) (_:∀x y,(ltOf cf) x y=false->(ltOf cf) y x=false->x=y),
  Calls P f #[.slice (some ⟨cm,off,none⟩) d.size cap,.func (.func g) #[] cb] w fun e w'=>
   e= .returned (.tuple #[])/\∃n os,w'=sortWorldK cr k w cm off n (d.toList.mergeSort fun x y=> !(ltOf cf) y x).toArray os
def Pv(P:Program)(f:Nat):Prop:=∀(α:Type) [Inhabited α] (cr:α->Value) (_:OneCell cr) (cf:α->α->Int) (_:Go.Sort.SWO (ltOf cf)) (g:Nat) (cb:Array Value) (cm off cap:Nat) (d:Array α) (w:World)
  (_:∀args w,(callFunc g args).run P w= .ok (.enter g args) w) (_:CmpLays1 P g cb cr cf cm off d.size w) (_:Holds cr w cm off d) (_:cm<w.heap.size) (_:d.size<4611686018427387904) (_:∀x y,(ltOf cf) x y=false->(ltOf cf) y x=false->x=y),
  Calls P f #[.slice (some ⟨cm,off,none⟩) d.size cap,.func (.func g) #[] cb] w fun e w'=>
   e= .returned (.tuple #[])/\∃n os,w'=sortWorld cr w cm off n (d.toList.mergeSort fun x y=> !(ltOf cf) y x).toArray os
def IZ(P:Program)(f:Nat):Prop:=∀(p:Option Addr) (cap:Nat) (fv:Value) (w:World),Calls P f #[.slice p 0 cap,fv] w fun e w'=>e= .returned (.tuple #[])/\w'=w
section
variable {P : Program} {α : Type} [Inhabited α] {pv : α -> List PV} {k : Nat}
def om(pv:α->List PV)(x:α):List Value:=(pv x).map oH
def Xf(P:Program)(f g e k:Nat)(pv:α->List PV)(le:α->α->Bool):Prop:=
 ∀(w:World) (b cap:Nat) (xs:List α) (cur:Array Value),w.heap[b]?=some (.cells cur e (0,0))->xs.length<4611686018427387904->xs.length<=cap->cap<=maxLen->cur.size=cap*k->cur.toList.take (xs.length*k)=xs.flatMap (om pv)->
  Calls P f #[.slice (some ⟨b,0,none⟩) xs.length cap,.func (.func g) #[] #[]] w fun en w'=>en= .returned (.tuple #[])/\
   ∃cur':Array Value,w'.heap[b]?=some (.cells cur' e (0,0))/\cur'.size=cur.size/\cur'.toList.take (xs.length*k)=(xs.mergeSort le).flatMap (om pv)/\Fr (some b) w w'
theorem S9(hk:∀x,(pv x).length=k):∀xs:List α,(xs.flatMap (om pv)).length=xs.length*k
 |[]=>by simp
 |x::xs=>by rw[List.flatMap_cons,QB,S9 hk xs,om,QC,hk,QE,Nat.add_mul,Nat.one_mul,Nat.add_comm]
theorem X8{f g e:Nat}{le:α->α->Bool}(h0:IZ P f)(hs:Xf P f g e k pv le)(hk0:0<k)(hk:∀x,(pv x).length=k)(hp:∀x,(pv x).all xo=true)(xs:List α)(hsx:xs.length<4611686018427387904):
  R5 P f e k (xs.map pv) [.bH g []] (.dP []) ((xs.mergeSort le).map pv):=by
 intro w X hX v vs hvX ⟨us,hown,hke,hr⟩ hargs;obtain⟨a1,args,rfl,ha1,hargs⟩:=hargs.cons_inv;obtain rfl:=hargs.nq;obtain⟨cs,rfl,hcs⟩:=ha1.wX;obtain rfl:=hcs.nq
 have hflat:∀l:List α,(l.map pv).flatten.map oH=l.flatMap (om pv):=fun l=>by
  induction l with
  |nil=>rfl
  |cons x l ih=>rw[QD,List.flatten_cons,List.map_append,ih,List.flatMap_cons];rfl
 have hplain:∀l:List α,(l.map pv).flatten.all xo=true:=fun l=>by
  induction l with
  |nil=>rfl
  |cons x l ih=>rw[QD,List.flatten_cons,List.all_append,ih,hp x];rfl
 have hus:us=xs.flatMap (om pv):=by rw[N2 (hplain xs) hr,hflat]
 have hms:(xs.mergeSort le).length=xs.length:=List.length_mergeSort xs
 have hkm:∀l:List α,∀u∈l.map pv,u.length=k:=fun l u hu=>by
  obtain⟨x,_,rfl⟩:=QP.1 hu;exact hk x
 have hlen:(xs.map pv).length=xs.length:=QC ..;have hlen2:((xs.mergeSort le).map pv).length=xs.length:=by rw[QC,hms]
 rw[hlen]at hown
 have hrep:∀w':World,bg w' (Mv v X) dg ((xs.mergeSort le).map pv).flatten ((xs.mergeSort le).flatMap (om pv)):=fun w'=>by
  rw[<-hflat];exact N1 (hplain _)
 by_cases hx:xs=[]
 ·
  subst hx
  have hv:∃p cap,v= .slice p 0 cap:=by
   rcases hown.2 with⟨h1,_⟩|⟨b,cap,cur,h1,_⟩
   ·exact⟨none,0,h1⟩
   ·exact⟨_,cap,h1⟩
  obtain⟨p,cap,hv⟩:=hv;have:=h0 p cap (.func (.func g) #[] [].toArray) w;rw[<-hv]at this;refine this.mono fun en w' ⟨h1,h2⟩=> ?_
  subst h2;refine⟨_,h1,.dP _ [] rfl (fun i x v h=>by simp at h),⟨us,?_,hkm _,?_⟩,Fr.refl _ _⟩
  ·rw[hlen2];exact hown
  ·rw[hus];have:=hrep w';rw[show([]:List α).mergeSort le=[]from by simp]at this ⊢
   exact this
 ·rcases hown.2 with⟨_,h2⟩|⟨b,cap,cur,rfl,hbase,hb,hn,hcap,hsz,htake⟩
  ·exact absurd (List.eq_nil_of_length_eq_zero h2) hx
  ·refine(hs w b cap xs cur hb hsx hn hcap hsz (by rw[htake,hus])).mono fun en w' ⟨h1,cur',h2,h3,h4,h5⟩=> ?_
   refine⟨_,h1,.dP _ [] rfl (fun i x v h=>by simp at h),⟨(xs.mergeSort le).flatMap (om pv),⟨?_,.inr ⟨b,cap,cur',by rw[hlen2],hbase,h2,by rw[hlen2];exact hn,hcap,by rw[h3];exact hsz,?_⟩⟩,hkm _,hrep w'⟩,h5⟩
   ·rw[S9 hk,hms,hlen2]
   ·rw[hlen2];exact h4
theorem K4{cr:α->List Value}(hk:∀x,(cr x).length=k)(hk0:0<k):∀(l:List α) (t:Nat),t<l.length*k->(l.flatMap cr)[t]?=(cr l[t / k]!)[t % k]?
 |[],t,h=>by simp at h
 |x::l,t,h=>by
  rw[List.flatMap_cons]
  by_cases ht:t<k
  ·rw[List.getElem?_append_left (by rw[hk];exact ht),Nat.div_eq_of_lt ht,Nat.mod_eq_of_lt ht]
   rfl
  ·rw[List.getElem?_append_right (by rw[hk];omega),hk]
   have hl:t - k<l.length*k:=by rw[QE,Nat.add_mul,Nat.one_mul]at h;omega
   rw[K4 hk hk0 l (t - k) hl,Nat.mod_eq_sub_mod (by omega:t>=k),show t / k=(t - k) / k+1 from Nat.div_eq_sub_div hk0 (by omega)]
   simp
theorem ZY{cr:α->List Value}(hk:∀x,(cr x).length=k)(hk0:0<k)(l:List α):(flatK cr k l.toArray).toList=l.flatMap cr:=by
 have hlen:(l.flatMap cr).length=l.length*k:=by
  induction l with
  |nil=>simp
  |cons x l ih=>rw[List.flatMap_cons,QB,ih,hk,QE,Nat.add_mul,Nat.one_mul,Nat.add_comm]
 apply List.ext_getElem?;intro t
 by_cases ht:t<l.length*k
 ·rw[K4 hk hk0 l t ht];have hm:t % k<(cr l[t / k]!).length:=by rw[hk];exact Nat.mod_lt _ hk0
  rw[Qv hm];unfold flatK;simp only[Array.toList_map,Array.toList_range,QT,List.size_toArray];rw[List.getElem?_range ht];simp only[Qe];congr 1;rw[show(l.toArray)[t / k]! =l[t / k]! by simp]
  exact getElem!_pos (cr l[t / k]!) (t % k) hm
 ·rw[List.getElem?_eq_none (by rw[Array.length_toList,size_flatK,List.size_toArray];omega),List.getElem?_eq_none (by omega)]
def adN(P:Program)(g:Nat)(val:α->Value)(cf:α->α->Int):Prop:=∀(x y:α) (w:World),Calls P g #[val x,val y] w fun e w'=>e= .returned (.int .i64 (cf x y))/\∃q os,w'=grow (w.drewN q) os
theorem OP{w:World}{b e cap:Nat}{xs:List α}{cur:Array Value}{F:Array Value}(hb:w.heap[b]?=some (.cells cur e (0,0)))(hF:F.toList=cur.toList.take F.size):Holds id w b 0 F:=by
 intro j hj
 have hc:cur[j]?=some F[j]:=by
  have h1:F.toList[j]?=some F[j]:=by rw[Array.getElem?_toList];exact Array.getElem?_eq_getElem hj
  rw[hF,List.getElem?_take,Qr hj,Array.getElem?_toList]at h1;exact h1
 rw[getElem!_pos F j hj];refine⟨?_,?_⟩
 ·unfold World.cell?;simp only[Nat.zero_add,hb];simpa using hc
 ·unfold World.frozen?;simp only[hb];simp
theorem ai9{f g e:Nat}{cf:α->α->Int}(hS:Xg P f k)(hk0:0<k)(hk:∀x,(pv x).length=k)(hp:∀x,(pv x).all xo=true)(hO:Go.Sort.SWO (ltOf cf))(hT:∀x y,(ltOf cf) x y=false->(ltOf cf) y x=false->x=y)
  (eg:∀args w,(callFunc g args).run P w= .ok (.enter g args) w) (hc:adN P g (fun x=> .agg (om pv x).toArray) cf):Xf P f g e k pv fun x y=> !(ltOf cf) y x:=by
 intro w b cap xs cur hb hsx hn hcap hsz htake;have hlt:b<w.heap.size:=(Array.getElem?_eq_some_iff.1 hb).1;have hkE:∀x,(om pv x).length=k:=fun x=>by rw[om,QC,hk]
 have hflat:∀l:List α,(flatK (om pv) k l.toArray).toList=l.flatMap (om pv):=ZY hkE hk0;have hcs:CmpLays P g #[] (om pv) k cf b 0 xs.toArray.size w:=fun m os dk _ x y=>hc x y _
 have hH:HoldsK (om pv) k w b 0 xs.toArray:=OP (xs:=xs) (cap:=cap) hb (by rw[hflat,size_flatK,List.size_toArray];exact htake.symm)
 have:=hS α (om pv) hkE (fun x v hv=>by obtain⟨y,hy,rfl⟩:=QP.1 hv;exact Sz (QH.1 (hp x) y hy)) cf hO g #[] b 0 cap xs.toArray w eg hcs hH hlt (by rw[List.size_toArray];exact hsx) hT
 refine this.mono fun en w' ⟨h1,n,os,h2⟩=>⟨h1,?_⟩
 have hms:(xs.mergeSort fun x y=> !(ltOf cf) y x).length=xs.length:=List.length_mergeSort xs
 have hFs:(flatK (om pv) k (xs.mergeSort fun x y=> !(ltOf cf) y x).toArray).size=xs.length*k:=by rw[size_flatK,List.size_toArray,hms]
 have hFc:(flatK (om pv) k (xs.mergeSort fun x y=> !(ltOf cf) y x).toArray).size<=cur.size:=by rw[hFs,hsz];exact Nat.mul_le_mul_right k hn
 subst h2;refine⟨_,Vq hb,by unfold putCells;rw[Array.size_mapIdx],?_,aa4⟩
 rw[Sv hFc,<-hFs,<-Array.length_toList,List.take_left,hflat]
theorem aja{f g e:Nat}{cf:α->α->Int}{p1:α->PV}(hS:Pv P f)(hp:∀x,xo (p1 x)=true)(hO:Go.Sort.SWO (ltOf cf))(hT:∀x y,(ltOf cf) x y=false->(ltOf cf) y x=false->x=y)
  (eg:∀args w,(callFunc g args).run P w= .ok (.enter g args) w) (hc:adN P g (fun x=>oH (p1 x)) cf):Xf P f g e 1 (fun x=>[p1 x]) fun x y=> !(ltOf cf) y x:=by
 intro w b cap xs cur hb hsx hn hcap hsz htake;have hlt:b<w.heap.size:=(Array.getElem?_eq_some_iff.1 hb).1
 have hflat:∀l:List α,(l.toArray.map fun x=>oH (p1 x)).toList=l.flatMap (om fun x=>[p1 x]):=fun l=>by
  induction l with
  |nil=>simp
  |cons x l ih=>
   rw[List.flatMap_cons,<-ih];simp[om]
 have hcs:CmpLays1 P g #[] (fun x=>oH (p1 x)) cf b 0 xs.toArray.size w:=fun m os dk _ x y=>hc x y _
 have hF:=OP (xs:=xs) (cap:=cap) (F:=xs.toArray.map fun x=>oH (p1 x)) hb (by rw[hflat,Array.size_map,List.size_toArray,<-Nat.mul_one xs.length];exact htake.symm)
 have hH:Holds (fun x=>oH (p1 x)) w b 0 xs.toArray:=by
  intro j hj;have h1:=hF j (by rw[Array.size_map];exact hj)
  rw[getElem!_pos _ j (by rw[Array.size_map];exact hj),Array.getElem_map]at h1
  rw[getElem!_pos _ j hj];exact h1
 have:=hS α (fun x=>oH (p1 x)) (fun x=>Sz (hp x)) cf hO g #[] b 0 cap xs.toArray w eg hcs hH hlt (by rw[List.size_toArray];exact hsx) hT
 refine this.mono fun en w' ⟨h1,n,os,h2⟩=>⟨h1,?_⟩
 have hms:(xs.mergeSort fun x y=> !(ltOf cf) y x).length=xs.length:=List.length_mergeSort xs
 have hput:∀(W:World) (d:Array α),putRow (fun x=>oH (p1 x)) W b 0 d=putRow id W b 0 (d.map fun x=>oH (p1 x)):=fun W d=>by
  unfold putRow;congr 1
  funext c
  unfold putCells;apply Array.ext_getElem?;intro i;simp only[Array.getElem?_mapIdx,Array.size_map,QS,true_and,Nat.zero_add,Nat.sub_zero,id]
  cases c[i]? with
  |none=>rfl
  |some y=>
   simp only[Qe]
   by_cases hi:i<d.size
   ·rw[Qr hi,Qr hi,getElem!_pos d i hi,getElem!_pos _ i (by rw[Array.size_map];exact hi),Array.getElem_map]
   ·rw[Qs hi,Qs hi]
 unfold sortWorld at h2;rw[hput]at h2;have hFs:((xs.mergeSort fun x y=> !(ltOf cf) y x).toArray.map fun x=>oH (p1 x)).size=xs.length*1:=by rw[Array.size_map,List.size_toArray,hms,Nat.mul_one]
 have hFc:((xs.mergeSort fun x y=> !(ltOf cf) y x).toArray.map fun x=>oH (p1 x)).size<=cur.size:=by rw[hFs,hsz];exact Nat.mul_le_mul_right 1 hn
 subst h2;refine⟨_,Vq hb,by unfold putCells;rw[Array.size_mapIdx],?_,aa4⟩
 rw[Sv hFc,<-hFs,<-Array.length_toList,List.take_left,hflat]
end
theorem YO{P:Program}{g:Nat}{α:Type}{va:α->PV}{val:α->Value}{cf:α->α->Int}(hval:∀(x:α) (w:World) (M:Nat->Prop),bf w M dg (va x) (val x))(h:∀x y,Con P g false [] [va x,va y] (.int .i64 (cf x y)) []):adN P g val cf:=by
 intro x y w;have:=h x y w (fun _=>False) (fun b hb=>hb.elim) 0 0 [] [val x,val y] (fun e=>by cases e) (.cons (hval x w _) (.cons (hval y w _) .nil))
 refine this.mono fun en w' ⟨v,rvs,h1,h2,_,h4⟩=> ?_
 rw[h2.fm]at h1;exact⟨h1,afI h4⟩
end Go.TQ
end
noncomputable section
namespace Go.TQ
open Go.Proofs Go.Sort
def IS{α:Type}(c:α->α->Option Int)(x y:α):Int:=(c x y).getD 0
structure aem {α:Type} (c:α->α->Option Int):Prop where
 some:∀x y,c x y=some (IS c x y)
 ord:Go.Sort.SWO (ltOf (IS c))
 tot:∀x y,ltOf (IS c) x y=false->ltOf (IS c) y x=false->x=y
open Classical in
 def Ag{α:Type}(c:α->α->Option Int)(s:List α):Option (Unit×List α):=if aem c/\s.length<4611686018427387904 then some ((),s.mergeSort fun x y=> !(ltOf (IS c)) y x)else none
section
variable {P : Program} {f g e k : Nat} {T : Ty} {F : T.den × T.den × Unit -> Option Int} (hent : Enters P f) (h0 : IZ P f) (hgs : dw.Sound P (U := U) (.fn g [.ty T, .ty T] (.one (Ty.i .i64)) F)) (hi : Inhabited T.den) (hp : ∀ x : T.den, (T.pv x).all xo = true)
 include hent h0 hgs hi hp
theorem ahM(hS:Xg P f k)(hk0:0<k)(hk:∀x:T.den,(T.pv x).length=k)(hv:∀x:T.den,dn (U:=U) T x= .agg (T.pv x)):
  dw.Sound P (U:=U) (.rw f e k T [.bH g []] (.many []) fun s a=>Ag (fun x y=>F (x,y,())) s):=by
 refine⟨hent,fun xs a r ys h=> ?_⟩
 have h:Ag (fun x y=>F (x,y,())) xs=some (r,ys):=h
 unfold Ag at h;split at h
 ·rename_i hc;injection h with h
  injection h with _ h2
  subst h2;refine X8 h0 (ai9 hS hk0 hk hp hc.1.ord hc.1.tot (fun args w=>qa hgs.1 args) ?_) hk0 hk hp xs hc.2
  refine YO (va:=fun x=> .agg (T.pv x)) (fun x w M=> .agg _ _ (by rw[om,QC]) fun i y v h1 h2=> ?_) fun x y=> ?_
  ·rw[om,QT,h1]at h2;injection h2 with h2
   rw[<-h2];exact H4 (QH.1 (hp x) y (List.mem_of_getElem? h1))
  ·have:=hgs.2 (x,y,()) _ (hc.1.some x y);rw[show gr (U:=U) [.ty T,.ty T] (x,y,())=[.agg (T.pv x),.agg (T.pv y)]by rw[<-hv x,<-hv y];rfl]at this
   exact this
 ·cases h
theorem Zb(hS:Pv P f)(hv:∀x:T.den,T.pv x=[dn (U:=U) T x]):
  dw.Sound P (U:=U) (.rw f e 1 T [.bH g []] (.many []) fun s a=>Ag (fun x y=>F (x,y,())) s):=by
 refine⟨hent,fun xs a r ys h=> ?_⟩
 have h:Ag (fun x y=>F (x,y,())) xs=some (r,ys):=h
 unfold Ag at h;split at h
 ·rename_i hc;injection h with h
  injection h with _ h2
  subst h2;have hp1:∀x:T.den,xo (dn (U:=U) T x)=true:=fun x=>by have:=hp x;rw[hv x]at this;simpa using this
  have hpv:(fun x:T.den=>T.pv x)=fun x=>[dn (U:=U) T x]:=funext hv
  have:=X8 (pv:=fun x:T.den=>[dn (U:=U) T x]) (e:=e) h0 (aja hS hp1 hc.1.ord hc.1.tot (fun args w=>qa hgs.1 args) (YO (va:=fun x=>dn (U:=U) T x) (fun x w M=>H4 (hp1 x)) fun x y=>hgs.2 (x,y,()) _ (hc.1.some x y))) (by omega) (fun x=>rfl) (fun x=>by simpa using hp1 x) xs hc.2
  rw[<-hpv]at this;exact this
 ·cases h
end
end Go.TQ
end
noncomputable section
namespace Go.Proofs
open Go.Shelf
def EM:Go.Shelf.Ren:=⟨fun|6=>251|15=>288|14=>287|28=>327|29=>328|20=>319|21=>320|22=>321|23=>322|24=>323|25=>324|26=>325|27=>326|46=>353|47=>354|48=>355|49=>356|50=>357|57=>377|n=>n,fun|22=>28|24=>9|25=>97|3=>3|39=>160|0=>0|53=>229|55=>256|4=>4|46=>271|45=>270|50=>125|5=>5|9=>9|66=>292|70=>296|76=>308|77=>148|n=>n,fun|n=>n⟩
theorem Pu:Go.Proofs.SlLaysF.n6 Tryz.prog EM:={
 mixed:=by kernel_rfl
 f6:=⟨Tryz.f251.name,by decide,Tryz.func251.trans (congrArg some (by kernel_rfl))⟩
 f14:=⟨Tryz.f287.name,by decide,Tryz.func287.trans (congrArg some (by kernel_rfl))⟩
 f15:=Tryz.func288.trans (congrArg some (by kernel_rfl))
 f20:=⟨Tryz.f319.name,by decide,Tryz.func319.trans (congrArg some (by kernel_rfl))⟩
 f21:=⟨Tryz.f320.name,by decide,Tryz.func320.trans (congrArg some (by kernel_rfl))⟩
 f22:=⟨Tryz.f321.name,by decide,Tryz.func321.trans (congrArg some (by kernel_rfl))⟩
 f23:=⟨Tryz.f322.name,by decide,Tryz.func322.trans (congrArg some (by kernel_rfl))⟩
 f24:=⟨Tryz.f323.name,by decide,Tryz.func323.trans (congrArg some (by kernel_rfl))⟩
 f25:=⟨Tryz.f324.name,by decide,Tryz.func324.trans (congrArg some (by kernel_rfl))⟩
 f26:=⟨Tryz.f325.name,by decide,Tryz.func325.trans (congrArg some (by kernel_rfl))⟩
 f27:=⟨Tryz.f326.name,by decide,Tryz.func326.trans (congrArg some (by kernel_rfl))⟩
 f28:=Tryz.func327.trans (congrArg some (by kernel_rfl))
 f29:=Tryz.func328.trans (congrArg some (by kernel_rfl))
 f46:=⟨Tryz.f353.name,by decide,Tryz.func353.trans (congrArg some (by kernel_rfl))⟩
 f47:=Tryz.func354.trans (congrArg some (by kernel_rfl))
 f48:=Tryz.func355.trans (congrArg some (by kernel_rfl))
 f49:=⟨Tryz.f356.name,by decide,Tryz.func356.trans (congrArg some (by kernel_rfl))⟩
 f50:=⟨Tryz.f357.name,by decide,Tryz.func357.trans (congrArg some (by kernel_rfl))⟩
 f57:=⟨Tryz.f377.name,by decide,Tryz.func377.trans (congrArg some (by kernel_rfl))⟩
 t0:=Tryz.underlying0
 a0:=Tryz.isAgg0
 z0:=Tryz.sizeOf0
 v0:=Tryz.zeroValue0
 t3:=Tryz.underlying3
 a3:=Tryz.isAgg3
 z3:=Tryz.sizeOf3
 v3:=Tryz.zeroValue3
 t4:=Tryz.underlying4
 a4:=Tryz.isAgg4
 z4:=Tryz.sizeOf4
 v4:=Tryz.zeroValue4
 t5:=Tryz.underlying5
 a5:=Tryz.isAgg5
 z5:=Tryz.sizeOf5
 v5:=Tryz.zeroValue5
 t9:=Tryz.underlying9
 a9:=Tryz.isAgg9
 z9:=Tryz.sizeOf9
 v9:=Tryz.zeroValue9
 t22:=Tryz.underlying28
 a22:=Tryz.isAgg28
 z22:=Tryz.sizeOf28
 v22:=Tryz.zeroValue28
 a24:=Tryz.isAgg9
 z24:=Tryz.sizeOf9
 t25:=Tryz.underlying97
 a25:=Tryz.isAgg97
 z25:=Tryz.sizeOf97
 v25:=Tryz.zeroValue97
 t39:=Tryz.underlying160
 a39:=Tryz.isAgg160
 z39:=Tryz.sizeOf160
 v39:=Tryz.zeroValue160
 t45:=Tryz.underlying270
 a45:=Tryz.isAgg270
 z45:=Tryz.sizeOf270
 v45:=Tryz.zeroValue270
 t46:=Tryz.underlying271
 a46:=Tryz.isAgg271
 z46:=Tryz.sizeOf271
 v46:=Tryz.zeroValue271
 t50:=Tryz.underlying125
 a50:=Tryz.isAgg125
 z50:=Tryz.sizeOf125
 v50:=Tryz.zeroValue125
 t53:=Tryz.underlying229
 a53:=Tryz.isAgg229
 z53:=Tryz.sizeOf229
 v53:=Tryz.zeroValue229
 t55:=Tryz.underlying256
 a55:=Tryz.isAgg256
 z55:=Tryz.sizeOf256
 v55:=Tryz.zeroValue256
 t66:=Tryz.underlying292
 a66:=Tryz.isAgg292
 z66:=Tryz.sizeOf292
 v66:=Tryz.zeroValue292
 t70:=Tryz.underlying296
 a70:=Tryz.isAgg296
 z70:=Tryz.sizeOf296
 v70:=Tryz.zeroValue296
 t76:=Tryz.underlying308
 a76:=Tryz.isAgg308
 z76:=Tryz.sizeOf308
 v76:=Tryz.zeroValue308
 t77:=Tryz.underlying148
 a77:=Tryz.isAgg148
 z77:=Tryz.sizeOf148
 v77:=Tryz.zeroValue148}
def R2:Go.Shelf.Ren:=⟨fun|6=>378|15=>288|14=>387|28=>327|29=>328|20=>389|21=>390|22=>391|23=>392|24=>393|25=>394|26=>395|27=>396|46=>405|47=>354|48=>355|49=>406|50=>407|57=>411|n=>n,fun|22=>180|24=>33|25=>217|3=>3|39=>160|0=>0|53=>229|55=>256|4=>4|46=>271|45=>270|50=>125|5=>5|9=>9|66=>292|70=>296|76=>308|77=>148|n=>n,fun|n=>n⟩
theorem Pt:Go.Proofs.SlLaysF0.n6 Tryz.prog R2:={
 mixed:=by kernel_rfl
 f6:=⟨Tryz.f378.name,by decide,Tryz.func378.trans (congrArg some (by kernel_rfl))⟩
 f14:=⟨Tryz.f387.name,by decide,Tryz.func387.trans (congrArg some (by kernel_rfl))⟩
 f15:=Tryz.func288.trans (congrArg some (by kernel_rfl))
 f20:=⟨Tryz.f389.name,by decide,Tryz.func389.trans (congrArg some (by kernel_rfl))⟩
 f21:=⟨Tryz.f390.name,by decide,Tryz.func390.trans (congrArg some (by kernel_rfl))⟩
 f22:=⟨Tryz.f391.name,by decide,Tryz.func391.trans (congrArg some (by kernel_rfl))⟩
 f23:=⟨Tryz.f392.name,by decide,Tryz.func392.trans (congrArg some (by kernel_rfl))⟩
 f24:=⟨Tryz.f393.name,by decide,Tryz.func393.trans (congrArg some (by kernel_rfl))⟩
 f25:=⟨Tryz.f394.name,by decide,Tryz.func394.trans (congrArg some (by kernel_rfl))⟩
 f26:=⟨Tryz.f395.name,by decide,Tryz.func395.trans (congrArg some (by kernel_rfl))⟩
 f27:=⟨Tryz.f396.name,by decide,Tryz.func396.trans (congrArg some (by kernel_rfl))⟩
 f28:=Tryz.func327.trans (congrArg some (by kernel_rfl))
 f29:=Tryz.func328.trans (congrArg some (by kernel_rfl))
 f46:=⟨Tryz.f405.name,by decide,Tryz.func405.trans (congrArg some (by kernel_rfl))⟩
 f47:=Tryz.func354.trans (congrArg some (by kernel_rfl))
 f48:=Tryz.func355.trans (congrArg some (by kernel_rfl))
 f49:=⟨Tryz.f406.name,by decide,Tryz.func406.trans (congrArg some (by kernel_rfl))⟩
 f50:=⟨Tryz.f407.name,by decide,Tryz.func407.trans (congrArg some (by kernel_rfl))⟩
 f57:=⟨Tryz.f411.name,by decide,Tryz.func411.trans (congrArg some (by kernel_rfl))⟩
 t0:=Tryz.underlying0
 a0:=Tryz.isAgg0
 z0:=Tryz.sizeOf0
 v0:=Tryz.zeroValue0
 t3:=Tryz.underlying3
 a3:=Tryz.isAgg3
 z3:=Tryz.sizeOf3
 v3:=Tryz.zeroValue3
 t4:=Tryz.underlying4
 a4:=Tryz.isAgg4
 z4:=Tryz.sizeOf4
 v4:=Tryz.zeroValue4
 t5:=Tryz.underlying5
 a5:=Tryz.isAgg5
 z5:=Tryz.sizeOf5
 v5:=Tryz.zeroValue5
 t9:=Tryz.underlying9
 a9:=Tryz.isAgg9
 z9:=Tryz.sizeOf9
 v9:=Tryz.zeroValue9
 t22:=Tryz.underlying180
 a22:=Tryz.isAgg180
 z22:=Tryz.sizeOf180
 v22:=Tryz.zeroValue180
 t25:=Tryz.underlying217
 a25:=Tryz.isAgg217
 z25:=Tryz.sizeOf217
 v25:=Tryz.zeroValue217
 t39:=Tryz.underlying160
 a39:=Tryz.isAgg160
 z39:=Tryz.sizeOf160
 v39:=Tryz.zeroValue160
 t45:=Tryz.underlying270
 a45:=Tryz.isAgg270
 z45:=Tryz.sizeOf270
 v45:=Tryz.zeroValue270
 t46:=Tryz.underlying271
 a46:=Tryz.isAgg271
 z46:=Tryz.sizeOf271
 v46:=Tryz.zeroValue271
 t50:=Tryz.underlying125
 a50:=Tryz.isAgg125
 z50:=Tryz.sizeOf125
 v50:=Tryz.zeroValue125
 t53:=Tryz.underlying229
 a53:=Tryz.isAgg229
 z53:=Tryz.sizeOf229
 v53:=Tryz.zeroValue229
 t55:=Tryz.underlying256
 a55:=Tryz.isAgg256
 z55:=Tryz.sizeOf256
 v55:=Tryz.zeroValue256
 t66:=Tryz.underlying292
 a66:=Tryz.isAgg292
 z66:=Tryz.sizeOf292
 v66:=Tryz.zeroValue292
 t70:=Tryz.underlying296
 a70:=Tryz.isAgg296
 z70:=Tryz.sizeOf296
 v70:=Tryz.zeroValue296
 t76:=Tryz.underlying308
 a76:=Tryz.isAgg308
 z76:=Tryz.sizeOf308
 v76:=Tryz.zeroValue308
 t77:=Tryz.underlying148
 a77:=Tryz.isAgg148
 z77:=Tryz.sizeOf148
 v77:=Tryz.zeroValue148}
def EL:Go.Shelf.Ren:=⟨fun|6=>382|15=>288|14=>388|28=>327|29=>328|20=>397|21=>398|22=>399|23=>400|24=>401|25=>402|26=>403|27=>404|46=>408|47=>354|48=>355|49=>409|50=>410|57=>412|n=>n,fun|22=>22|24=>3|25=>59|3=>3|39=>160|0=>0|53=>229|55=>256|4=>4|46=>271|45=>270|50=>125|5=>5|9=>9|66=>292|70=>296|76=>308|77=>148|n=>n,fun|n=>n⟩
theorem Pr:Go.Proofs.SlLaysF.n6 Tryz.prog EL:={
 mixed:=by kernel_rfl
 f6:=⟨Tryz.f382.name,by decide,Tryz.func382.trans (congrArg some (by kernel_rfl))⟩
 f14:=⟨Tryz.f388.name,by decide,Tryz.func388.trans (congrArg some (by kernel_rfl))⟩
 f15:=Tryz.func288.trans (congrArg some (by kernel_rfl))
 f20:=⟨Tryz.f397.name,by decide,Tryz.func397.trans (congrArg some (by kernel_rfl))⟩
 f21:=⟨Tryz.f398.name,by decide,Tryz.func398.trans (congrArg some (by kernel_rfl))⟩
 f22:=⟨Tryz.f399.name,by decide,Tryz.func399.trans (congrArg some (by kernel_rfl))⟩
 f23:=⟨Tryz.f400.name,by decide,Tryz.func400.trans (congrArg some (by kernel_rfl))⟩
 f24:=⟨Tryz.f401.name,by decide,Tryz.func401.trans (congrArg some (by kernel_rfl))⟩
 f25:=⟨Tryz.f402.name,by decide,Tryz.func402.trans (congrArg some (by kernel_rfl))⟩
 f26:=⟨Tryz.f403.name,by decide,Tryz.func403.trans (congrArg some (by kernel_rfl))⟩
 f27:=⟨Tryz.f404.name,by decide,Tryz.func404.trans (congrArg some (by kernel_rfl))⟩
 f28:=Tryz.func327.trans (congrArg some (by kernel_rfl))
 f29:=Tryz.func328.trans (congrArg some (by kernel_rfl))
 f46:=⟨Tryz.f408.name,by decide,Tryz.func408.trans (congrArg some (by kernel_rfl))⟩
 f47:=Tryz.func354.trans (congrArg some (by kernel_rfl))
 f48:=Tryz.func355.trans (congrArg some (by kernel_rfl))
 f49:=⟨Tryz.f409.name,by decide,Tryz.func409.trans (congrArg some (by kernel_rfl))⟩
 f50:=⟨Tryz.f410.name,by decide,Tryz.func410.trans (congrArg some (by kernel_rfl))⟩
 f57:=⟨Tryz.f412.name,by decide,Tryz.func412.trans (congrArg some (by kernel_rfl))⟩
 t0:=Tryz.underlying0
 a0:=Tryz.isAgg0
 z0:=Tryz.sizeOf0
 v0:=Tryz.zeroValue0
 t3:=Tryz.underlying3
 a3:=Tryz.isAgg3
 z3:=Tryz.sizeOf3
 v3:=Tryz.zeroValue3
 t4:=Tryz.underlying4
 a4:=Tryz.isAgg4
 z4:=Tryz.sizeOf4
 v4:=Tryz.zeroValue4
 t5:=Tryz.underlying5
 a5:=Tryz.isAgg5
 z5:=Tryz.sizeOf5
 v5:=Tryz.zeroValue5
 t9:=Tryz.underlying9
 a9:=Tryz.isAgg9
 z9:=Tryz.sizeOf9
 v9:=Tryz.zeroValue9
 t22:=Tryz.underlying22
 a22:=Tryz.isAgg22
 z22:=Tryz.sizeOf22
 v22:=Tryz.zeroValue22
 a24:=Tryz.isAgg3
 z24:=Tryz.sizeOf3
 t25:=Tryz.underlying59
 a25:=Tryz.isAgg59
 z25:=Tryz.sizeOf59
 v25:=Tryz.zeroValue59
 t39:=Tryz.underlying160
 a39:=Tryz.isAgg160
 z39:=Tryz.sizeOf160
 v39:=Tryz.zeroValue160
 t45:=Tryz.underlying270
 a45:=Tryz.isAgg270
 z45:=Tryz.sizeOf270
 v45:=Tryz.zeroValue270
 t46:=Tryz.underlying271
 a46:=Tryz.isAgg271
 z46:=Tryz.sizeOf271
 v46:=Tryz.zeroValue271
 t50:=Tryz.underlying125
 a50:=Tryz.isAgg125
 z50:=Tryz.sizeOf125
 v50:=Tryz.zeroValue125
 t53:=Tryz.underlying229
 a53:=Tryz.isAgg229
 z53:=Tryz.sizeOf229
 v53:=Tryz.zeroValue229
 t55:=Tryz.underlying256
 a55:=Tryz.isAgg256
 z55:=Tryz.sizeOf256
 v55:=Tryz.zeroValue256
 t66:=Tryz.underlying292
 a66:=Tryz.isAgg292
 z66:=Tryz.sizeOf292
 v66:=Tryz.zeroValue292
 t70:=Tryz.underlying296
 a70:=Tryz.isAgg296
 z70:=Tryz.sizeOf296
 v70:=Tryz.zeroValue296
 t76:=Tryz.underlying308
 a76:=Tryz.isAgg308
 z76:=Tryz.sizeOf308
 v76:=Tryz.zeroValue308
 t77:=Tryz.underlying148
 a77:=Tryz.isAgg148
 z77:=Tryz.sizeOf148
 v77:=Tryz.zeroValue148}
end Go.Proofs
namespace Go.Proofs.YtjbfdglebjnelaaGreat
open Go.TQ Go.Proofs
namespace Bs
theorem enters:Go.TQ.Enters Tryz.prog 251:=⟨_,Tryz.func251,by kernel_rfl,by kernel_rfl⟩
theorem none:IZ Tryz.prog 251:=fun p cap fv w=>AnyF.slices_SortFunc_none (P:=Tryz.prog) (ρ:=EM) {Pu with} p cap fv w
theorem Ja:Pv Tryz.prog 251:=fun α _ cr h1 cf hO g cb cm off cap d w eg hc hH hb hsz hT=>Any.slices_SortFunc_total Pu cr h1 cf hO g cb cm off cap d w eg hc hH hb hsz hT
end Bs
namespace M6
theorem enters:Go.TQ.Enters Tryz.prog 378:=⟨_,Tryz.func378,by kernel_rfl,by kernel_rfl⟩
theorem none:IZ Tryz.prog 378:=fun p cap fv w=>AnyF.slices_SortFunc_none Pt p cap fv w
theorem Ja:Xg Tryz.prog 378 2:=fun α _ cr hk h1 cf hO g cb cm off cap d w eg hc hH hb hsz hT=>AnyQ.slices_SortFunc_total Pt 2 Tryz.isAgg33 Tryz.sizeOf33 cr hk h1 cf hO g cb cm off cap d w eg hc hH hb hsz hT
end M6
namespace M5
theorem enters:Go.TQ.Enters Tryz.prog 382:=⟨_,Tryz.func382,by kernel_rfl,by kernel_rfl⟩
theorem none:IZ Tryz.prog 382:=fun p cap fv w=>AnyF.slices_SortFunc_none (P:=Tryz.prog) (ρ:=EL) {Pr with} p cap fv w
theorem Ja:Pv Tryz.prog 382:=fun α _ cr h1 cf hO g cb cm off cap d w eg hc hH hb hsz hT=>Any.slices_SortFunc_total Pr cr h1 cf hO g cb cm off cap d w eg hc hH hb hsz hT
end M5
end Go.Proofs.YtjbfdglebjnelaaGreat
end
