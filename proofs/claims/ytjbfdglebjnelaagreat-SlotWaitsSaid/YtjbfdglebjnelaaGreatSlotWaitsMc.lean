/-
  Texts made small by a program (see NOTES). Conditions: those that each theorem names.
-/
import Derived.Test.YtjbfdglebjnelaaGreatSlotWaitsMb
import Derived.KernelRfl
import Derived.Laws.CopyRow
import Derived.Laws.Externs
import Derived.Lib.Overlaps
import Derived.Lib.AppendZerosOnto
import Derived.Laws.NewBlocks
import Derived.Test.YtjbfdglebjnelaaGreatProg
import Derived.Shelf.Spec.SlicesInsert
import Derived.Shelf.SlSortCmp.NoneTotal
set_option linter.unusedVariables false
set_option linter.unusedSimpArgs false
set_option linter.unusedSectionVars false
set_option maxHeartbeats 2000000
noncomputable section
namespace Go.TQ
section
open Go.RowKit
def qi{σ ρ:Type}(step:σ->Option (σ⊕ρ)):Nat->σ->Option ρ
 |0,_=>none
 |n+1,s=>match step s with
  |none=>none
  |some (.inr r)=>some r
  |some (.inl s')=>qi step n s'
theorem E0{σ ρ:Type}{step:σ->Option (σ⊕ρ)}{r:ρ}:∀{n m:Nat} {s:σ},n<=m->qi step n s=some r->qi step m s=some r
 |0,_,_,_,h=>by cases h
 |n+1,0,_,hnm,_=>by omega
 |n+1,m+1,s,hnm,h=>by
  simp only[qi]at h ⊢;split at h
  ·cases h
  ·exact h
  ·exact E0 (by omega) h
theorem WO{σ ρ:Type}{step:σ->Option (σ⊕ρ)}{r r':ρ}{n m:Nat}{s:σ}(h:qi step n s=some r)(h':qi step m s=some r'):r=r':=by
 have h1:=E0 (Nat.le_max_left n m) h;have h2:=E0 (Nat.le_max_right n m) h';rw[h1]at h2;injection h2
open Classical in
 def aA{σ ρ:Type}(step:σ->Option (σ⊕ρ))(s:σ):Option ρ:=
 if h:∃r,∃n,qi step n s=some r then some (Classical.choose h)else none
theorem AU{σ ρ:Type}{step:σ->Option (σ⊕ρ)}{s:σ}{r:ρ}(h:aA step s=some r):∃n,qi step n s=some r:=by
 unfold aA at h;split at h
 ·rename_i hx;injection h with h
  obtain⟨n,hn⟩:=Classical.choose_spec hx;exact⟨n,by rw[hn,h]⟩
 ·cases h
theorem Jn{σ ρ:Type}{step:σ->Option (σ⊕ρ)}{s:σ}{r:ρ}{n:Nat}(h:qi step n s=some r):aA step s=some r:=by
 unfold aA;have hx:∃r,∃n,qi step n s=some r:=⟨r,n,h⟩;rw[dif_pos hx];obtain⟨m,hm⟩:=Classical.choose_spec hx;rw[WO hm h]
theorem eO{σ ρ:Type}(step:σ->Option (σ⊕ρ))(s:σ):aA step s=match step s with|none=>none|some (.inr r)=>some r|some (.inl s')=>aA step s':=by
 cases hs:step s with
 |none=>
  cases h:aA step s with
  |none=>rfl
  |some r=>
   obtain⟨n,hn⟩:=AU h
   cases n with
   |zero=>cases hn
   |succ n=>simp[qi,hs]at hn
 |some x=>
  cases x with
  |inr r=>exact Jn (n:=1) (by simp[qi,hs])
  |inl s'=>
   simp only
   cases h':aA step s' with
   |some r=>
    obtain⟨n,hn⟩:=AU h';exact Jn (n:=n+1) (by simp only[qi,hs];exact hn)
   |none=>
    cases h:aA step s with
    |none=>rfl
    |some r=>
     obtain⟨n,hn⟩:=AU h
     cases n with
     |zero=>cases hn
     |succ n=>simp only[qi,hs]at hn;rw[Jn hn]at h';cases h'
open Classical in
 def both{ρ:Type}(x y:Option ρ):Option ρ:=if x=y then x else none
theorem Xs{ρ:Type}{x y:Option ρ}{r:ρ}(h:both x y=some r):x=some r/\y=some r:=by
 unfold both at h;split at h
 ·rename_i e;exact⟨h,e▸h⟩
 ·cases h
@[simp] theorem aeX {ρ:Type} (x:Option ρ):both x x=x:=Qr rfl
def aZ{σ ρ:Type}(j:σ->Option ρ)(f:(σ->Option ρ)->Option ρ):Option ρ:=f j
def mO{α σ ρ:Type}(step:Nat->α->σ->Option (σ⊕ρ))(fin:σ->Option ρ):List α->σ->Option ρ
 |[],s=>fin s
 |a::l,s=>match step l.length a s with
  |none=>none
  |some (.inr r)=>some r
  |some (.inl s')=>mO step fin l s'
section
variable {U : TU}
inductive SA (U:TU) where
 |skip
 |xl (rs:RS U)
 |tC (un:List (Nat×Nat)) (rs:RS U)
 |seq (x y:SA U)
 |join (J:JS U) (x y:SA U)
 |cond (c:bo) (x y:SA U)
 |block (id:Nat) (x:SA U)
 |loop (J:JS U) (x:SA U)
 |VW (n:Nat) (x:SA U)
 |back (J:JS U) (f k:Nat) (nE:Option Nat) (T:U.Ty) (tg p0 p1:Nat) (x y:SA U)
 |exit (id:Nat)
 |ret
 |ps (p:Ps U) (x:SA U)
 |Iy (p:Ps U) (x:SA U)
def SA.erase:SA U->SC
 | .skip=> .skip
 | .xl rs=> .xl rs.flat
 | .tC un rs=> .tC un rs.flat
 | .seq x y=> .seq x.erase y.erase
 | .join _ x y=> .seq x.erase y.erase
 | .cond c x y=> .cond c x.erase y.erase
 | .block id x=> .block id x.erase
 | .loop _ x=> .loop x.erase
 | .VW _ x=> .loop x.erase
 | .back _ _ _ _ _ tg p0 p1 x y=> .Fy (.tmp tg) [p0,p1] x.erase y.erase
 | .exit id=> .exit id
 | .ret=> .ret
 | .ps _ x=>x.erase
 | .Iy _ x=>x.erase
def SA.dC:SA U->Bool
 | .xl rs=>rs.dC
 | .tC _ rs=>rs.dC
 | .seq x y=>x.dC&&y.dC
 | .join _ x y=>x.dC&&y.dC
 | .cond c x y=>c.dC&&x.dC&&y.dC
 | .block _ x=>x.dC
 | .loop _ x=>x.dC
 | .VW _ x=>x.dC
 | .back _ _ _ _ _ _ _ _ x y=>x.dC&&y.dC
 | .ps _ x=>x.dC
 | .Iy _ x=>x.dC
 |_=>true
variable (K : TK U)
def Cz(Γ:List (dV U)){ρ:Type}(W:WS)(base:Nat):RS U->(i:Nat)->(S:aW U)->(k:aW U->List uU->Option ρ)->Option ρ
 | .nil,_,S,k=>k S []
 | .op o r,i,S,k=>Vf K Γ W (base+i) S o fun x wr=>Cz Γ W base r (i+1) (S.cQ o.d x wr) fun S' fs=>k S' (⟨o.d,o.bX,DV (base+i) S.st o,wr.map (·.1)⟩::fs)
 | .Ay t r,i,S,k=>(match S.env t with
  | .bool b=>bif b then Cz Γ W base r i (S.cQ (some t) (.bool true) none) k else Cz Γ W base r i (S.cQ (some t) (.bool false) none) k
  | .undef=>Cz Γ W base r i S k
  |_=>none)
 |_,_,_,_=>none
def Gq(F:List Nat)(ds:List Nat):Bool:=ds.all fun t=> !iB t F
def aW.more(S:aW U)(n:Nat):aW U:={env:=S.env,H:=S.H,N:=S.N+n}
def aW.fW(S:aW U)(D:List Nat):aW U:={env:=fun t=>(match iB t D with|true=> .any|false=>S.env t),H:=S.H,N:=S.N}
def UU(U:TU)(T:U.Ty):Option Nat->Bool
 |none=> !U.agg T
 |some n=>U.agg T&&Nat.beq n (U.size T)
def O6{ρ:Type}(f:(aW U->Option ρ)->aW U->Option ρ):Nat->aW U->Option ρ
 |0,_=>none
 |n+1,S=>f (O6 f n) S
 def oN(Γ:List (dV U)):SA U->{ρ:Type}->(F:List Nat)->(W:WS)->(k:Exit->aW U->Option ρ)->(S:aW U)->Option ρ
 | .skip,_,_,_,k,S=>k .normal S
 | .xl rs,_,F,W,k,S=>(match Gq F rs.jK with
  |true=>kI K Γ rs W S.N (S.more rs.len) fun S'=>k .normal S'
  |false=>none)
 | .tC un rs,_,F,W,k,S=>(match Gq F rs.jK with
  |true=>Cz K Γ W S.N rs 0 (S.more rs.len) fun S' fs=>(match un.all (fun p=>match fs[p.1]?,fs[p.2]? with|some a,some b=>BV a b|_,_=>false)with
   |true=>k .normal S'
   |false=>none)
  |false=>none)
 | .seq x y,_,F,W,k,S=>oN Γ x F W (fun e S'=>match e with
  | .normal=>oN Γ y F W k S'
  |e=>k e S') S
 | .join J x y,_,F,W,k,S=>(match tF S J F W with
  |true=>aZ (fun v=>oN Γ y F W k (unpack K S J v)) fun j=>oN Γ x J.eL (some (S.N,fp J.items)) (fun e S'=>match e with
   | .normal=>(match pack K S' J.items with|some v=>j v|none=>none)
   |e=>k e S') S
  |false=>none)
 | .cond c x y,_,F,W,k,S=>(match c.cJ S with
  | .bool b=>bif b then oN Γ x F W k S else oN Γ y F W k S
  | .gH=>both (oN Γ x F W k S) (oN Γ y F W k S)
  |_=>none)
 | .block id x,_,F,W,k,S=>oN Γ x F W (fun e S'=>match e with
  | .exit i=>(match Nat.beq i id with|true=>k .normal S'|false=>k (.exit i) S')
  |e=>k e S') S
 | .loop J x,_,F,W,k,S=>(match tF S J F W with
  |true=>(match pack K S J.items with
   |some v0=>aA (fun v=>oN Γ x J.eL (some (S.N,fp J.items)) (fun e S'=>match e with
    | .normal=>(match pack K S' J.items with|some v=>some (Sum.inl v)|none=>none)
    |e=>(k e S').map Sum.inr) (unpack K S J v)) v0
   |none=>none)
  |false=>none)
 | .VW n x,_,F,W,k,S=>O6 (fun ih S=>oN Γ x F W (fun e S'=>match e with| .normal=>ih S'|e=>k e S') S) n S
 | .back J f kk nE T tg p0 p1 x y,_,F,W,k,S=>
  let D:=SC.sX (.Fy (.tmp tg) [p0,p1] x.erase y.erase)
  (match Lr f kk nE Γ&&Nat.beq (U.size T) kk&&UU U T nE&&iB tg J.eL&&Gq J.eL D&&Gq F D&&tF (S.fW D) J F W with
  |true=>(match S.env tg with
   | .bG f' [.ref [.sl T' xs']]=>(match Nat.beq f' f with
    |true=>(match zz T' T xs' with
     |some xs=>(match pack K (S.fW D) J.items with
      |some v0=>mO (fun m a v=>oN Γ x J.eL (some (S.N,fp J.items)) (fun e S1=>match e with
       | .normal=>oN Γ y J.eL (some (S.N,fp J.items)) (fun e S'=>match e with
        | .normal=>(match pack K (S'.fW D) J.items with|some v=>some (Sum.inl v)|none=>none)
        | .ret=>(k .ret (S'.fW D)).map Sum.inr
        | .exit i=>(k (.exit i) (S'.fW D)).map Sum.inr
        |_=>none) S1
       |_=>none) {(unpack K (S.fW D) J v)with env:=hZ (hZ (unpack K (S.fW D) J v).env p0 (.int .i64 m)) p1 (wc K T a)}) (fun v=>k .normal (unpack K (S.fW D) J v)) xs.reverse v0
      |none=>none)
     |none=>none)
    |false=>none)
   |_=>none)
  |false=>none)
 | .exit id,_,_,_,k,S=>k (.exit id) S
 | .ret,_,_,_,k,S=>k .ret S
 | .ps p x,_,F,W,k,S=>(match(p.EI S).all (okW W)&&Gq F p.tmps with
  |true=>(match p.run S with|some S'=>oN Γ x F W k S'|none=>none)
  |false=>none)
 | .Iy p x,_,F,W,k,S=>oN Γ x F W (fun e S'=>match e with
  | .normal=>(match(p.EI S').all (okW W)&&Gq F p.tmps with
   |true=>(match p.run S' with|some S1=>k .normal S1|none=>none)
   |false=>none)
  |e=>k e S') S
structure jh (F:List Nat) (W:WS) (S S':aW U):Prop where
 env:∀t∈F,S'.env t=S.env t
 H:∀id,okW W id=false->S'.H id=S.H id
 N:S.N<=S'.N
theorem jh.refl(F:List Nat)(W:WS)(S:aW U):jh F W S S:=⟨fun _ _=>rfl,fun _ _=>rfl,QI _⟩
theorem jh.trans{F:List Nat}{W:WS}{S S' S'':aW U}(h:jh F W S S')(h':jh F W S' S''):jh F W S S'':=
 ⟨fun t ht=>(h'.env t ht).trans (h.env t ht),fun id hid=>(h'.H id hid).trans (h.H id hid),QK h.N h'.N⟩
theorem AH.toC{D F:List Nat}{W:WS}{S S':aW U}(h:AH D W S S')(ho:Gq F D=true):jh F W S S':=
 ⟨fun t ht=>h.env t (fun hd=>by have h1:=QH.1 ho t hd;rw[eH.2 ht]at h1;cases h1),h.H,h.N⟩
theorem jh.more{F:List Nat}{W:WS}{S S':aW U}{n:Nat}(h:jh F W (S.more n) S'):jh F W S S':=
 ⟨h.env,h.H,QK (Nat.le_add_right _ _) h.N⟩
variable {K}
variable {P : Program} {nt : Nat}
theorem T9{sc:SC}{Q:Exit->St->Prop}{S S':St}(hw:∀(E:En) (a:Act) (w:World) (L:Nat->Value),Rel E S a w L->∃L',Rel E S' a w L')(h:VS P nt sc Q S'):VS P nt sc Q S:=
 fun c hs hc E hE hk a w L hr=>by
  obtain⟨L',h'⟩:=hw E a w L hr;exact h c hs hc E hE hk a w L' h'
theorem abP{sc:SC}{Q Q':Exit->St->Prop}{S:St}(h:VS P nt sc Q' S)(hq:∀e A,Q' e A->∃A',Q e A'/\∀(E:En) (a:Act) (w:World) (L:Nat->Value),Rel E A a w L->∃L',Rel E A' a w L'):VS P nt sc Q S:=
 fun c hs hc E hE hk a w L hr=>wpIn_mono (h c hs hc E hE hk a w L hr) fun _ _ _ ⟨S',L',h1,h2⟩=>by
  obtain⟨A',h3,h4⟩:=hq _ _ h2;obtain⟨L'',h5⟩:=h4 _ _ _ _ h1;exact⟨A',L'',h5,h3⟩
theorem abO{Γ:List (dV U)}(hΓ:uZ P Γ){rs:RS U}{W:WS}{ρ:Type}{k:aW U->Option ρ}{r:ρ}{S:aW U}(hok:rs.dC=true)(hr:kI K Γ rs W S.N (S.more rs.len) k=some r){Q:Exit->St->Prop}
  (h:∀S',AH rs.jK W (S.more rs.len) S'->k S'=some r->Q .normal S'.st):VS P nt (.xl rs.flat) Q S.st:=by
 intro c hs hc
 cases c with
 |region id ops d=>
  cases d with
  |true=>simp only[aO]at hc;(try split at hc)<;>(try split at hc)<;>(try split at hc)<;>cases hc
  |false=>
   simp only[aO]at hc;split at hc
   ·rename_i gs' hgs;split at hc
    ·rename_i hd;injection hc with hc
     injection hc with hc
     subst hc;intro E hE hk a w L hrel;refine wpIn_region_list ?_;have h0:Rel E (S.more rs.len).st a w L:=hrel.room rs.len;have:=pa (K:=K) (E:=E) hΓ (ops:=ops) (Q:=fun e a' w'=>∃S' L',Rel E S' a' w' L'/\Q e S') rs W S.N (S.more rs.len) k r ops.toList [] a w L hok hgs h0 (QI _) (Xr hE hk (Rz hd)) hr (fun S' a' w' L' hf h' hk'=>⟨S'.st,L',h',h S' hf hk'⟩)
     simpa using this
    ·cases hc
   ·cases hc
 |seq x y=>simp only[aO]at hc;split at hc<;>cases hc
 |cond c x y=>simp only[aO]at hc;split at hc<;>cases hc
 |block id c=>simp only[aO,Qb]at hc;obtain⟨_,_,hc⟩:=hc;cases hc
 |loop c=>simp only[aO,Qb]at hc;obtain⟨_,_,hc⟩:=hc;cases hc
 |rangeFunc g ps x y=>simp only[aO]at hc;split at hc<;>(try split at hc)<;>cases hc
 |_=>simp only[aO]at hc<;>cases hc
theorem Kl{Γs Γs':Nat->ow}{base:Nat}:∀(l:List (Nat×SG)) (S:St),(∀p∈l,Γs p.1=Γs' p.1)->oh Γs base l S=oh Γs' base l S
 |[],_,_=>rfl
 |(i,g)::l,S,h=>by
  simp only[oh,h (i,g) (by simp)]
  split
  ·rfl
  ·rename_i p hp;rw[Kl l _ fun q hq=>h q (Qy _ hq)]
theorem ve{Γ:List (dV U)}(hΓ:uZ P Γ){W:WS}{base:Nat}{ρ:Type}{r:ρ}:∀(rs:RS U) (i:Nat) (S:aW U) (k:aW U->List uU->Option ρ),rs.dC=true->Cz K Γ W base rs i S k=some r->
  ∃(Γs:Nat->ow) (S':aW U) (fs:List uU),(∀j,nQ P (Γs j))/\oh Γs base ((rs.flat.zipIdx i).map fun p=>(p.2,p.1)) S.st=some (S'.st,fs)/\AH rs.jK W S S'/\k S' fs=some r
 | .nil,i,S,k,_,h=>⟨fun _ _=>none,S,[],fun _=>US,rfl,AH.refl _ _ _,h⟩
 | .op o rs,i,S,k,hok,h=>by
  simp only[RS.dC,Qm]at hok;simp only[Cz]at h;obtain⟨Γ',x,wr,h1,h2,h3,h4⟩:=LC hΓ hok.1 h;obtain⟨Γs,S',fs,h5,h6,h7,h8⟩:=ve hΓ rs (i+1) _ _ hok.2 h4;refine⟨fun j=>if j=i then Γ' else Γs j,S',_,fun j=> ?_,?_,?_,h8⟩
  ·simp only;split
   ·exact h1
   ·exact h5 j
  ·simp only[RS.flat,List.zipIdx_cons,QD,oh,Qt,h2]
   have:oh (fun j=>if j=i then Γ' else Γs j) base ((rs.flat.zipIdx (i+1)).map fun p=>(p.2,p.1)) (S.st.cQ o.d x.pv (wr.map jS))=some (S'.st,fs):=by
    rw[<-FW,<-h6];refine Kl _ _ fun p hp=> ?_
    obtain⟨q,hq,rfl⟩:=QP.1 hp;have:=List.mem_zipIdx hq;simp only;rw[Qs (by omega)]
   rw[this];simp only[Dd]
   cases wr with
   |none=>rfl
   |some p=>rfl
  ·refine(T6 S W o.d x wr h3).trans h7 fun t ht=> ?_
   simp only[RS.jK]at ht
   cases hdd:o.d with
   |none=>rw[hdd]at ht;exact⟨by simp,ht⟩
   |some d=>rw[hdd]at ht;simp only[QA,not_or]at ht;exact⟨by simpa using fun e=>ht.1 e,ht.2⟩
 | .Ay t rs,i,S,k,hok,h=>by
  simp only[Cz]at h;split at h
  ·rename_i b hb
   cases b with
   |true=>rw[Qk,B5 hb]at h;exact ve hΓ rs i S k hok h
   |false=>rw[Ql,B5 hb]at h;exact ve hΓ rs i S k hok h
  ·exact ve hΓ rs i S k hok h
  ·cases h
 | .ps _ _,_,_,_,_,h=>by cases h
 | .ite _ _ _ _ _ _ _ _,_,_,_,_,h=>by cases h
theorem abL{c:Code}{Q:Exit->St->Prop}{S:St}(I:Nat->St->Prop)(m0:Nat){S0:St}(hw0:∀(E:En) (a:Act) (w:World) (L:Nat->Value),Rel E S a w L->∃L',Rel E S0 a w L')(h0:I m0 S0)
  (hr:∀m S,I m S->V P nt c (fun e S'=>match e with| .normal=>∃m',m'<m/\∃S'',(∀(E:En) (a:Act) (w:World) (L:Nat->Value),Rel E S' a w L->∃L',Rel E S'' a w L')/\I m' S''|e=>Q e S') S):V P nt (.loop c) Q S:=fun E hE hk a w L hrel=>by
 refine wpIn_loop_ghost (fun m a w=>∃S L,I m S/\Rel E S a w L) m0 ?_ ?_
 ·obtain⟨L',h'⟩:=hw0 E a w L hrel;exact⟨S0,L',h0,h'⟩
 rintro m a w ⟨S1,L1,hI,h1⟩;refine wpIn_mono (hr m S1 hI E hE hk a w L1 h1) ?_;rintro e a' w' ⟨S',L',h2,h3⟩
 cases e with
 |normal=>
  obtain⟨m',hlt,S'',hw,hI'⟩:=h3;obtain⟨L'',h4⟩:=hw E a' w' L' h2;exact⟨m',hlt,S'',L'',hI',h4⟩
 |exit i=>exact⟨S',L',h2,h3⟩
 |goto l=>exact⟨S',L',h2,h3⟩
 |ret=>exact⟨S',L',h2,h3⟩
 |panic c=>exact⟨S',L',h2,h3⟩
 |outgrown=>exact⟨S',L',h2,h3⟩
theorem R8{x:SC}{Q:Exit->St->Prop}{S:St}(I:Nat->St->Prop)(m0:Nat){S0:St}(hw0:∀(E:En) (a:Act) (w:World) (L:Nat->Value),Rel E S a w L->∃L',Rel E S0 a w L')(h0:I m0 S0)
  (hr:∀m S,I m S->VS P nt x (fun e S'=>match e with| .normal=>∃m',m'<m/\∃S'',(∀(E:En) (a:Act) (w:World) (L:Nat->Value),Rel E S' a w L->∃L',Rel E S'' a w L')/\I m' S''|e=>Q e S') S):VS P nt (.loop x) Q S:=by
 intro c hs hc
 cases c with
 |loop p=>
  simp only[aO,Qb]at hc;obtain⟨x',hx,hc⟩:=hc;injection hc with h1
  subst h1;exact abL I m0 hw0 h0 (fun m S hI=>hr m S hI p hs hx)
 |region id ops d=>cases d<;>simp only[aO]at hc<;>(try split at hc)<;>(try split at hc)<;>(try split at hc)<;>cases hc
 |seq x y=>simp only[aO]at hc;split at hc<;>cases hc
 |cond c x y=>simp only[aO]at hc;split at hc<;>cases hc
 |block id c=>simp only[aO,Qb]at hc;obtain⟨_,_,hc⟩:=hc;cases hc
 |rangeFunc g ps x y=>simp only[aO]at hc;split at hc<;>(try split at hc)<;>cases hc
 |_=>simp only[aO]at hc<;>cases hc
theorem Jm{S:aW U}{J:JS U}{F:List Nat}{W:WS}(hchk:tF S J F W=true)(v:rJ J.items):jh F W S (unpack K S J v):=by
 simp only[tF,Qm,QH]at hchk;obtain⟨⟨⟨⟨⟨⟨hnd,hids⟩,hokv⟩,hkeep⟩,hobj⟩,hF⟩,hW⟩:=hchk;refine⟨fun t ht=> ?_,fun id hid=> ?_,?_⟩
 ·have hk:=eH.1 (hF t ht);have hns:iB t (slotsOf J.items)=false:=by simpa using(hkeep t hk).2
  rcases zI (K:=K) (S.base J.eL) J.items v t with⟨⟨i,d⟩,hmem,h1,h2⟩|⟨_,h2⟩
  ·exact absurd (CI (kT hmem) h1) (pU hns)
  ·rw[show(unpack K S J v).env t=_ from h2,Fj,Qr hk]
 ·have hlt:id<S.N:=by
   cases W with
   |none=>cases hW
   |some q=>
    obtain⟨n,l⟩:=q;simp only at hW;simp only[okW,Qq74]at hid;have h1:=QG hW;have h2:¬n<=id:=fun hle=>by rw[Nat.ble_eq_true_of_le hle]at hid;cases hid.1
    omega
  rcases DE (K:=K) (S.base J.eL) J.items v id hnd with⟨⟨i,d⟩,hmem,h1,h2⟩|⟨_,h2⟩
  ·have:=(hids id (ue (kT hmem) h1)).2;rw[hid]at this;cases this
  ·rw[show(unpack K S J v).H id=_ from h2,LQ,Qr hlt]
 ·rw[unpack,DD,LP];exact QI _
theorem Gu{S S1:aW U}{J:JS U}{F:List Nat}{W:WS}(hchk:tF S J F W=true){v:rJ J.items}(hp:pack K S1 J.items=some v)(hf:jh J.eL (some (S.N,fp J.items)) S S1):
  ∀(E:En) (a:Act) (w:World) (L:Nat->Value),Rel E S1.st a w L->∃L',Rel E (unpack K S J v).st a w L':=by
 intro E a w L h;refine⟨L,Rel.meet hchk hp hf.env (fun id hid hni=>hf.H id ?_) hf.N h⟩
 simp only[okW,Qq74];refine⟨?_,?_⟩
 ·cases hb:Nat.ble S.N id with
  |false=>rfl
  |true=>have:=QG hb;omega
 ·cases hb:iB id (fp J.items)with
  |false=>rfl
  |true=>exact absurd (eH.1 hb) hni
theorem Ek(S:aW U)(D:List Nat):(S.fW D).st=S.st.uk D:=by
 unfold aW.fW aW.st St.uk;congr 1
 funext t
 simp only
 by_cases h:t∈D
 ·rw[Qr h,eH.2 h];rfl
 ·rw[Qs h]
  cases hb:iB t D with
  |true=>exact absurd (eH.1 hb) h
  |false=>rfl
theorem E7{F D:List Nat}(h:Gq F D=true)(W:WS)(S:aW U):jh F W S (S.fW D):=
 ⟨fun t ht=>by
  have hn:iB t D=false:=by
   cases hb:iB t D with
   |false=>rfl
   |true=>
    have:=QH.1 h t (eH.1 hb);rw[eH.2 ht]at this;cases this
  simp only[aW.fW,hn],fun _ _=>rfl,QI _⟩
theorem PY{S:aW U}{J:JS U}{F:List Nat}{W:WS}(hchk:tF S J F W=true)(v:rJ J.items){S':aW U}(hf:jh J.eL (some (S.N,fp J.items)) (unpack K S J v) S'):jh F W S S':=by
 have hm:=Jm (K:=K) hchk v;refine hm.trans ?_;simp only[tF,Qm,QH]at hchk;obtain⟨⟨⟨⟨⟨⟨hnd,hids⟩,hokv⟩,hkeep⟩,hobj⟩,hF⟩,hW⟩:=hchk;refine⟨fun t ht=>hf.env t (eH.1 (hF t ht)),fun id hid=>hf.H id ?_,hf.N⟩
 simp only[okW,Qq74];refine⟨?_,?_⟩
 ·cases W with
  |none=>cases hW
  |some q=>
   obtain⟨n,l⟩:=q;simp only at hW;simp only[okW,Qq74]at hid;have h1:=QG hW
   cases hb:Nat.ble S.N id with
   |false=>rfl
   |true=>have:=QG hb;rw[Nat.ble_eq_true_of_le (QK h1 this)]at hid;cases hid.1
 ·cases hb:iB id (fp J.items)with
  |false=>rfl
  |true=>have:=(hids id (eH.1 hb)).2;rw[hid]at this;cases this
theorem NP{S:aW U}{J:JS U}{F:List Nat}{W:WS}(hchk:tF S J F W=true)(v:rJ J.items){t:Nat}(ht:t∈J.eL):(unpack K S J v).env t=S.env t:=by
 simp only[tF,Qm,QH]at hchk;obtain⟨⟨⟨⟨⟨⟨hnd,hids⟩,hokv⟩,hkeep⟩,hobj⟩,hF⟩,hW⟩:=hchk;have hns:iB t (slotsOf J.items)=false:=by simpa using(hkeep t ht).2
 rcases zI (K:=K) (S.base J.eL) J.items v t with⟨⟨i,d⟩,hmem,h1,h2⟩|⟨_,h2⟩
 ·exact absurd (CI (kT hmem) h1) (pU hns)
 ·rw[show(unpack K S J v).env t=_ from h2,Fj,Qr ht]
theorem WI{S:aW U}{J:JS U}{F:List Nat}{W:WS}(hchk:tF S J F W=true)(v:rJ J.items){S':aW U}(hf:jh J.eL (some (S.N,fp J.items)) (unpack K S J v) S'){v':rJ J.items}(hv':pack K S' J.items=some v'):
  ∀(E:En) (a:Act) (w:World) (L:Nat->Value),Rel E S'.st a w L->∃L',Rel E (unpack K S J v').st a w L':=by
 intro E a w L hrel;have hkp:=fun{t} ht=>NP (K:=K) hchk v (t:=t) ht
 have hc:=hchk;simp only[tF,Qm,QH]at hc;obtain⟨⟨⟨⟨⟨⟨hnd,hids⟩,hokv⟩,hkeep⟩,hobj⟩,hF⟩,hW⟩:=hc;refine⟨L,Rel.meet hchk hv' (fun t ht=>(hf.env t ht).trans (hkp ht)) (fun id hid hni=>(hf.H id ?_).trans ?_) (by have:=hf.N;rw[unpack,DD,LP]at this;exact this) hrel⟩
 ·simp only[okW,Qq74];refine⟨?_,?_⟩
  ·cases hb:Nat.ble S.N id with
   |false=>rfl
   |true=>have:=QG hb;omega
  ·cases hb:iB id (fp J.items)with
   |false=>rfl
   |true=>exact absurd (eH.1 hb) hni
 ·rcases DE (K:=K) (S.base J.eL) J.items v id hnd with⟨⟨i,d⟩,hmem,h1,h2⟩|⟨_,h2⟩
  ·exact absurd (ue (kT hmem) h1) hni
  ·rw[show(unpack K S J v).H id=_ from h2,LQ,Qr hid]
theorem Y6{T:U.Ty}{k:Nat}{nE:Option Nat}(hsz:U.size T=k)(hnE:UU U T nE=true)(xs:List (U.den T)):Hh k nE (xs.map (U.pv T))/\∀a:U.den T,zY nE (U.pv T a)=(wc K T a).pv:=by
 have key:∀a:U.den T,sN nE (U.pv T a)=some (dp T a):=by
  intro a;unfold dp
  cases nE with
  |none=>
   simp only[UU,Bool.not_eq_true']at hnE;have h1:=K.len T a;rw[K.one T hnE]at h1;rw[hnE]
   match h2:U.pv T a with
   |[]=>rw[h2]at h1;cases h1
   |x::l=>rfl
  |some n=>
   simp only[UU,Qm]at hnE;have h1:=QF hnE.2;subst h1;rw[hnE.1,sN,Qr (by rw[K.len];exact QI _),<-K.len T a,Qq62]
 have hev:∀a:U.den T,zY nE (U.pv T a)=dp T a:=fun a=>by simp only[zY,key,Q3]
 refine⟨⟨fun e he=> ?_,fun e he=> ?_,fun e he=> ?_⟩,fun a=>by rw[hev,wT]⟩
 ·obtain⟨a,_,rfl⟩:=QP.1 he;rw[K.len,hsz]
 ·obtain⟨a,_,rfl⟩:=QP.1 he;rw[hev,key]
 ·obtain⟨a,_,rfl⟩:=QP.1 he;rw[hev];unfold dp;split
  ·exact QH.2 fun y hy=>gI (K.gN T a y hy)
  ·cases h2:U.pv T a with
   |nil=>have:=K.len T a;rename_i hag;rw[K.one T hag,h2]at this;cases this
   |cons x l=>
    have h3:=gI (K.gN T a x (by rw[h2];exact Qx))
    have h4:=K.gN T a x (by rw[h2];exact Qx)
    cases x<;>first|exact h3|(cases h4)
theorem eU{Γ:List (dV U)}(hΓ:uZ P Γ):∀(sa:SA U) {ρ:Type} (F:List Nat) (W:WS) (k:Exit->aW U->Option ρ) (S:aW U) (r:ρ),sa.dC=true->oN K Γ sa F W k S=some r->
  VS P nt sa.erase (fun e A=>∃S',A=S'.st/\jh F W S S'/\k e S'=some r) S.st
 | .skip,ρ,F,W,k,S,r,hok,h=>abN ⟨S,rfl,jh.refl _ _ _,h⟩
 | .exit id,ρ,F,W,k,S,r,hok,h=>abQ ⟨S,rfl,jh.refl _ _ _,h⟩
 | .ret,ρ,F,W,k,S,r,hok,h=>adn ⟨S,rfl,jh.refl _ _ _,h⟩
 | .xl rs,ρ,F,W,k,S,r,hok,h=>by
  simp only[oN]at h;split at h
  ·rename_i ho;exact abO hΓ hok h fun S' hf hk=>⟨S',rfl,(hf.toC ho).more,hk⟩
  ·cases h
 | .tC un rs,ρ,F,W,k,S,r,hok,h=>by
  simp only[oN]at h;split at h
  ·rename_i ho;obtain⟨Γs,S',fs,h1,h2,h3,h4⟩:=ve hΓ rs 0 _ _ hok h;split at h4
   ·rename_i hun;refine ado h1 (S':=S'.st) ?_ ⟨S',rfl,(h3.toC ho).more,h4⟩;rw[RS.yO];have e:({S.st with N:=S.st.N+rs.len}:St)=(S.more rs.len).st:=rfl
    rw[e,Mo];rw[show S.st.N=S.N from rfl,h2]
    exact Qr hun
   ·cases h4
  ·cases h
 | .seq x y,ρ,F,W,k,S,r,hok,h=>by
  simp only[SA.dC,Qm]at hok;refine XF ((eU hΓ x F W _ S r hok.1 h).mono ?_);rintro e A ⟨S',rfl,hf,hk⟩
  cases e with
  |normal=>exact(eU hΓ y F W k S' r hok.2 hk).mono fun e A ⟨S'',h1,h2,h3⟩=>⟨S'',h1,hf.trans h2,h3⟩
  |exit i=>exact⟨S',rfl,hf,hk⟩
  |goto l=>exact⟨S',rfl,hf,hk⟩
  |ret=>exact⟨S',rfl,hf,hk⟩
  |panic c=>exact⟨S',rfl,hf,hk⟩
  |outgrown=>exact⟨S',rfl,hf,hk⟩
 | .join J x y,ρ,F,W,k,S,r,hok,h=>by
  simp only[SA.dC,Qm]at hok;simp only[oN]at h;split at h
  ·rename_i hchk;unfold aZ at h
   have hsub:∀S',jh J.eL (some (S.N,fp J.items)) S S'->jh F W S S':=by
    intro S' hf;simp only[tF,Qm,QH]at hchk;obtain⟨⟨⟨⟨⟨⟨hnd,hids⟩,hokv⟩,hkeep⟩,hobj⟩,hF⟩,hW⟩:=hchk;refine⟨fun t ht=>hf.env t (eH.1 (hF t ht)),fun id hid=>hf.H id ?_,hf.N⟩
    simp only[okW,Qq74];refine⟨?_,?_⟩
    ·cases W with
     |none=>cases hW
     |some q=>
      obtain⟨n,l⟩:=q;simp only at hW;simp only[okW,Qq74]at hid;have h1:=QG hW
      cases hb:Nat.ble S.N id with
      |false=>rfl
      |true=>have:=QG hb;rw[Nat.ble_eq_true_of_le (QK h1 this)]at hid;cases hid.1
    ·cases hb:iB id (fp J.items)with
     |false=>rfl
     |true=>have:=(hids id (eH.1 hb)).2;rw[hid]at this;cases this
   refine XF ((eU hΓ x J.eL _ _ S r hok.1 h).mono ?_);rintro e A ⟨S',rfl,hf,hk⟩
   cases e with
   |normal=>
    simp only at hk;split at hk
    ·rename_i v hv;refine T9 (Gu hchk hv hf) ?_;exact(eU hΓ y F W k _ r hok.2 hk).mono fun e A ⟨S'',h1,h2,h3⟩=>⟨S'',h1,(Jm hchk v).trans h2,h3⟩
    ·cases hk
   |exit i=>exact⟨S',rfl,hsub S' hf,hk⟩
   |goto l=>exact⟨S',rfl,hsub S' hf,hk⟩
   |ret=>exact⟨S',rfl,hsub S' hf,hk⟩
   |panic c=>exact⟨S',rfl,hsub S' hf,hk⟩
   |outgrown=>exact⟨S',rfl,hsub S' hf,hk⟩
  ·cases h
 | .cond c x y,ρ,F,W,k,S,r,hok,h=>by
  simp only[SA.dC,Qm]at hok;simp only[oN]at h;split at h
  ·rename_i b hb;have hv:c.val S.st= .bool b:=by rw[wY hok.1.1,hb];rfl
   refine abR hv ?_
   cases b with
   |true=>exact eU hΓ x F W k S r hok.1.2 h
   |false=>exact eU hΓ y F W k S r hok.2 h
  ·rename_i hb;have hv:c.val S.st= .gH:=by rw[wY hok.1.1,hb];rfl
   obtain⟨h1,h2⟩:=Xs h;exact Zc hv (eU hΓ x F W k S r hok.1.2 h1) (eU hΓ y F W k S r hok.2 h2)
  ·cases h
 | .block id x,ρ,F,W,k,S,r,hok,h=>by
  refine Zd ((eU hΓ x F W _ S r hok h).mono ?_);rintro e A ⟨S',rfl,hf,hk⟩
  cases e with
  |exit i=>
   simp only at hk;simp only[D1];split at hk
   ·rename_i hi;rw[Qr (QF hi)];exact⟨S',rfl,hf,hk⟩
   ·rename_i hi;rw[Qs (Nat.ne_of_beq_eq_false hi)];exact⟨S',rfl,hf,hk⟩
  |normal=>exact⟨S',rfl,hf,hk⟩
  |goto l=>exact⟨S',rfl,hf,hk⟩
  |ret=>exact⟨S',rfl,hf,hk⟩
  |panic c=>exact⟨S',rfl,hf,hk⟩
  |outgrown=>exact⟨S',rfl,hf,hk⟩
 | .loop J x,ρ,F,W,k,S,r,hok,h=>by
  simp only[oN]at h;split at h
  ·rename_i hchk;split at h
   ·rename_i v0 hv0
    have hsub:∀v S',jh J.eL (some (S.N,fp J.items)) (unpack K S J v) S'->jh F W S S':=by
     intro v S' hf;have hm:=Jm (K:=K) hchk v;refine hm.trans ?_;simp only[tF,Qm,QH]at hchk;obtain⟨⟨⟨⟨⟨⟨hnd,hids⟩,hokv⟩,hkeep⟩,hobj⟩,hF⟩,hW⟩:=hchk;refine⟨fun t ht=>hf.env t (eH.1 (hF t ht)),fun id hid=>hf.H id ?_,hf.N⟩
     simp only[okW,Qq74];refine⟨?_,?_⟩
     ·cases W with
      |none=>cases hW
      |some q=>
       obtain⟨n,l⟩:=q;simp only at hW;simp only[okW,Qq74]at hid;have h1:=QG hW
       cases hb:Nat.ble S.N id with
       |false=>rfl
       |true=>have:=QG hb;rw[Nat.ble_eq_true_of_le (QK h1 this)]at hid;cases hid.1
     ·cases hb:iB id (fp J.items)with
      |false=>rfl
      |true=>have:=(hids id (eH.1 hb)).2;rw[hid]at this;cases this
    have hself:∀v S',jh J.eL (some (S.N,fp J.items)) (unpack K S J v) S'->∀v',pack K S' J.items=some v'->∀(E:En) (a:Act) (w:World) (L:Nat->Value),Rel E S'.st a w L->∃L',Rel E (unpack K S J v').st a w L':=by
     intro v S' hf v' hv' E a w L hrel;have hc:=hchk;simp only[tF,Qm,QH]at hc;obtain⟨⟨⟨⟨⟨⟨hnd,hids⟩,hokv⟩,hkeep⟩,hobj⟩,hF⟩,hW⟩:=hc;refine⟨L,Rel.meet hchk hv' (fun t ht=>(hf.env t ht).trans ?_) (fun id hid hni=>(hf.H id ?_).trans ?_) (by have:=hf.N;rw[unpack,DD,LP]at this;exact this) hrel⟩
     ·have hns:iB t (slotsOf J.items)=false:=by simpa using(hkeep t ht).2
      rcases zI (K:=K) (S.base J.eL) J.items v t with⟨⟨i,d⟩,hmem,h1,h2⟩|⟨_,h2⟩
      ·exact absurd (CI (kT hmem) h1) (pU hns)
      ·rw[show(unpack K S J v).env t=_ from h2,Fj,Qr ht]
     ·simp only[okW,Qq74];refine⟨?_,?_⟩
      ·cases hb:Nat.ble S.N id with
       |false=>rfl
       |true=>have:=QG hb;omega
      ·cases hb:iB id (fp J.items)with
       |false=>rfl
       |true=>exact absurd (eH.1 hb) hni
     ·rcases DE (K:=K) (S.base J.eL) J.items v id hnd with⟨⟨i,d⟩,hmem,h1,h2⟩|⟨_,h2⟩
      ·exact absurd (ue (kT hmem) h1) hni
      ·rw[show(unpack K S J v).H id=_ from h2,LQ,Qr hid]
    obtain⟨n,hn⟩:=AU h
    refine R8 (fun m A=>∃v,A=(unpack K S J v).st/\qi (fun v=>oN K Γ x J.eL (some (S.N,fp J.items)) (fun e S'=>match e with
     | .normal=>(match pack K S' J.items with|some v=>some (Sum.inl v)|none=>none)
     |e=>(k e S').map Sum.inr) (unpack K S J v)) m v=some r) n (Gu hchk hv0 (jh.refl _ _ _)) ⟨v0,rfl,hn⟩ ?_
    rintro m A ⟨v,rfl,hm⟩
    cases m with
    |zero=>cases hm
    |succ m=>
     simp only[qi]at hm;split at hm
     ·cases hm
     ·rename_i r' hs;injection hm with hm
      subst hm;refine(eU hΓ x J.eL _ _ _ _ hok hs).mono ?_;rintro e A ⟨S',rfl,hf,hk⟩
      cases e with
      |normal=>
       simp only at hk;split at hk<;>cases hk
      |exit i=>simp only[Qb]at hk;obtain⟨q,hq,e⟩:=hk;injection e with e;subst e;exact⟨S',rfl,hsub v S' hf,hq⟩
      |goto l=>simp only[Qb]at hk;obtain⟨q,hq,e⟩:=hk;injection e with e;subst e;exact⟨S',rfl,hsub v S' hf,hq⟩
      |ret=>simp only[Qb]at hk;obtain⟨q,hq,e⟩:=hk;injection e with e;subst e;exact⟨S',rfl,hsub v S' hf,hq⟩
      |panic c=>simp only[Qb]at hk;obtain⟨q,hq,e⟩:=hk;injection e with e;subst e;exact⟨S',rfl,hsub v S' hf,hq⟩
      |outgrown=>simp only[Qb]at hk;obtain⟨q,hq,e⟩:=hk;injection e with e;subst e;exact⟨S',rfl,hsub v S' hf,hq⟩
     ·rename_i v' hs;refine(eU hΓ x J.eL _ _ _ _ hok hs).mono ?_;rintro e A ⟨S',rfl,hf,hk⟩
      cases e with
      |normal=>
       simp only at hk;split at hk
       ·rename_i v1 hv1;injection hk with hk
        injection hk with hk
        subst hk;exact⟨m,Nat.lt_succ_self m,_,hself v S' hf v1 hv1,v1,rfl,hm⟩
       ·cases hk
      |exit i=>simp only[Qb]at hk;obtain⟨q,hq,e⟩:=hk;cases e
      |goto l=>simp only[Qb]at hk;obtain⟨q,hq,e⟩:=hk;cases e
      |ret=>simp only[Qb]at hk;obtain⟨q,hq,e⟩:=hk;cases e
      |panic c=>simp only[Qb]at hk;obtain⟨q,hq,e⟩:=hk;cases e
      |outgrown=>simp only[Qb]at hk;obtain⟨q,hq,e⟩:=hk;cases e
   ·cases h
  ·cases h
 | .VW n x,ρ,F,W,k,S,r,hok,h=>by
  simp only[oN]at h;have⟨g,hg,h⟩:=(⟨_,rfl,h⟩:∃g,g=_/\O6 g n S=some r);refine R8 (fun m A=>∃S1:aW U,A=S1.st/\jh F W S S1/\O6 g m S1=some r) n (fun E a w L h=>⟨L,h⟩) ⟨S,rfl,jh.refl _ _ _,h⟩ ?_
  rintro m A ⟨S1,rfl,hf1,hm⟩
  cases m with
  |zero=>cases hm
  |succ m=>
   simp only[O6]at hm;rw[hg]at hm;simp only at hm;rw[<-hg]at hm;refine(eU hΓ x F W _ S1 r hok hm).mono ?_;rintro e A ⟨S',rfl,hf,hk⟩
   cases e with
   |normal=>exact⟨m,Nat.lt_succ_self m,S'.st,fun E a w L h=>⟨L,h⟩,S',rfl,hf1.trans hf,hk⟩
   |exit i=>exact⟨S',rfl,hf1.trans hf,hk⟩
   |goto l=>exact⟨S',rfl,hf1.trans hf,hk⟩
   |ret=>exact⟨S',rfl,hf1.trans hf,hk⟩
   |panic c=>exact⟨S',rfl,hf1.trans hf,hk⟩
   |outgrown=>exact⟨S',rfl,hf1.trans hf,hk⟩
 | .back J f kk nE T tg p0 p1 x y,ρ,F,W,k,S,r,hok,h=>by
  simp only[SA.dC,Qm]at hok;simp only[oN]at h;obtain⟨D,hD⟩:∃D,SC.sX (.Fy (.tmp tg) [p0,p1] x.erase y.erase)=D:=⟨_,rfl⟩;rw[hD]at h;split at h
  ·rename_i hcond;simp only[Qm]at hcond;obtain⟨⟨⟨⟨⟨⟨hbk,hsz⟩,hnE⟩,htk⟩,hkD⟩,hFD⟩,hchk⟩:=hcond;have hsz:=QF hsz;have htk:=eH.1 htk
   have htD:tg∉D:=fun hm=>by
    have:=QH.1 hkD tg hm;rw[eH.2 htk]at this;cases this
   have hp:∀q,q=p0\/q=p1->iB q J.eL=false:=by
    intro q hq;have hqD:q∈D:=by rw[<-hD];rcases hq with rfl|rfl<;>simp[SC.sX]
    simpa using QH.1 hkD q hqD
   split at h
   ·rename_i f' T' xs' hclo;split at h
    ·rename_i hff;have hff:=QF hff;subst hff;split at h
     ·rename_i xs hcast;obtain⟨eT,hxs⟩:=nO hcast;subst eT;simp only at hxs;subst hxs;split at h
      ·rename_i v0 hv0;obtain⟨hin,hev⟩:=Y6 (K:=K) hsz hnE xs;have⟨step,hstep,h⟩:=(⟨_,rfl,h⟩:∃step,step=_/\mO step (fun v=>k .normal (unpack K (S.fW D) J v)) xs.reverse v0=some r)
       have hN:(S.fW D).N=S.N:=rfl;refine abS (JE hΓ hbk) hin (by rw[hD];exact htD) (fun i A=>∃v,A=(unpack K (S.fW D) J v).st/\mO step (fun v=>k .normal (unpack K (S.fW D) J v)) (xs.take i).reverse v=some r) ?_ ?_ ?_ ?_
       ·rw[hD,<-Ek];refine⟨_,Gu hchk hv0 (jh.refl _ _ _),v0,rfl,?_⟩;rw[QC,Qq62];exact h
       ·rintro i A ⟨v,rfl,_⟩;show((unpack K (S.fW D) J v).env tg).pv=_;rw[NP hchk v htk];have:(S.fW D).env tg=S.env tg:=(E7 hkD none S).env tg htk;rw[this,hclo];rfl
       ·rintro m A e ⟨v,rfl,hm⟩ he;rw[QT,Qb]at he;obtain⟨a,ha,rfl⟩:=he;have hml:m<xs.length:=(Qw.1 ha).1;rw[List.take_add_one,ha,Option.toList_some,List.reverse_append]at hm;simp only[List.reverse_cons,List.reverse_nil,List.nil_append,List.singleton_append,mO]at hm;rw[List.length_reverse,List.length_take,Nat.min_eq_left (Nat.le_of_lt hml)]at hm
        obtain⟨z,hz,hzr⟩:∃z,step m a v=some z/\(match z with| .inr r'=>r'=r| .inl s'=>mO step (fun v=>k .normal (unpack K (S.fW D) J v)) (xs.take m).reverse s'=some r):=by
         split at hm
         ·cases hm
         ·rename_i r' hs;injection hm with hm
          exact⟨_,hs,hm⟩
         ·rename_i s' hs;exact⟨_,hs,hm⟩
        clear hm;rw[hstep]at hz;simp only at hz
        have hst:({(unpack K (S.fW D) J v).st with env:=bO (bO (unpack K (S.fW D) J v).st.env p0 (.int .i64 m)) p1 (zY nE (U.pv _ a))}:St)=aW.st {(unpack K (S.fW D) J v)with env:=hZ (hZ (unpack K (S.fW D) J v).env p0 (.int .i64 m)) p1 (wc K _ a)}:=by
         have henv:bO (bO (unpack K (S.fW D) J v).st.env p0 (.int .i64 m)) p1 (zY nE (U.pv _ a))=fun t=>((hZ (hZ (unpack K (S.fW D) J v).env p0 (.int .i64 m)) p1 (wc K _ a)) t).pv:=by
          funext t
          simp only[cI,hev];unfold bO;split
          ·rfl
          ·split
           ·rfl
           ·rfl
         exact congrArg (fun e=>({(unpack K (S.fW D) J v).st with env:=e}:St)) henv
        rw[hst]
        have hf0:jh J.eL (some (S.N,fp J.items)) (unpack K (S.fW D) J v) {(unpack K (S.fW D) J v)with env:=hZ (hZ (unpack K (S.fW D) J v).env p0 (.int .i64 m)) p1 (wc K _ a)}:=by
         refine⟨fun t ht=> ?_,fun _ _=>rfl,QI _⟩
         simp only[cI];rw[cD _ _ (fun e=>by have:=hp t (.inr e);rw[eH.2 ht]at this;cases this),cD _ _ (fun e=>by have:=hp t (.inl e);rw[eH.2 ht]at this;cases this)]
        refine(eU hΓ x J.eL _ _ _ _ hok.1 hz).mono ?_;rintro e A ⟨S1,rfl,hf1,hk1⟩
        cases e with
        |normal=>
         simp only at hk1;refine(eU hΓ y J.eL _ _ _ _ hok.2 hk1).mono ?_;rintro e A ⟨S2,rfl,hf2,hk2⟩;have hf3:jh J.eL (some (S.N,fp J.items)) (unpack K (S.fW D) J v) (S2.fW D):=((hf0.trans hf1).trans hf2).trans (E7 hkD _ _);have hf4:jh F W S (S2.fW D):=(E7 hFD W S).trans (PY hchk v hf3);rw[hD]
         cases e with
         |normal=>
          simp only at hk2;split at hk2
          ·rename_i v' hv';injection hk2 with hk2
           subst hk2;refine⟨_,?_,v',rfl,hzr⟩;rw[<-Ek];exact WI hchk v hf3 hv'
          ·cases hk2
         |ret=>
          simp only[Qb]at hk2;obtain⟨q,hq,rfl⟩:=hk2;simp only at hzr;subst hzr;exact⟨S2.fW D,(Ek _ _).symm,hf4,hq⟩
         |exit i=>
          simp only[Qb]at hk2;obtain⟨q,hq,rfl⟩:=hk2;simp only at hzr;subst hzr;exact⟨S2.fW D,(Ek _ _).symm,hf4,hq⟩
         |goto i=>cases hk2
         |panic ch=>cases hk2
         |outgrown=>cases hk2
        |ret=>cases hk1
        |exit i=>cases hk1
        |goto i=>cases hk1
        |panic ch=>cases hk1
        |outgrown=>cases hk1
       ·rintro A ⟨v,rfl,hm⟩;simp only[List.take_zero,List.reverse_nil,mO]at hm;exact⟨_,rfl,(E7 hFD W S).trans (PY hchk v (jh.refl _ _ _)),hm⟩
      ·cases h
     ·cases h
    ·cases h
   ·cases h
  ·cases h
 | .ps p x,ρ,F,W,k,S,r,hok,h=>by
  simp only[oN]at h;split at h
  ·rename_i hW;simp only[Qm]at hW;split at h
   ·rename_i S1 hp;refine T9 (fun E a w L hr=>Ps.sound K hp hr) ((eU hΓ x F W k S1 r hok h).mono fun e A ⟨S'',h1,h2,h3⟩=>⟨S'',h1,jh.trans ?_ h2,h3⟩)
    exact(Ps.frm hp hW.1).toC hW.2
   ·cases h
  ·cases h
 | .Iy p x,ρ,F,W,k,S,r,hok,h=>by
  refine abP (eU hΓ x F W _ S r hok h) ?_;rintro e A ⟨S',rfl,hf,hk⟩
  cases e with
  |normal=>
   simp only at hk;split at hk
   ·rename_i hW;simp only[Qm]at hW;split at hk
    ·rename_i S1 hp;exact⟨S1.st,⟨S1,rfl,hf.trans ((Ps.frm hp hW.1).toC hW.2),hk⟩,fun E a w L hr=>Ps.sound K hp hr⟩
    ·cases hk
   ·cases hk
  |exit i=>exact⟨_,⟨S',rfl,hf,hk⟩,fun E a w L hr=>⟨L,hr⟩⟩
  |goto l=>exact⟨_,⟨S',rfl,hf,hk⟩,fun E a w L hr=>⟨L,hr⟩⟩
  |ret=>exact⟨_,⟨S',rfl,hf,hk⟩,fun E a w L hr=>⟨L,hr⟩⟩
  |panic c=>exact⟨_,⟨S',rfl,hf,hk⟩,fun E a w L hr=>⟨L,hr⟩⟩
  |outgrown=>exact⟨_,⟨S',rfl,hf,hk⟩,fun E a w L hr=>⟨L,hr⟩⟩
end
end
section
open Go.RowKit
section
variable {P : Program} {E : En} {S : St} {a : Act} {w : World} {L : Nat -> Value} {nt : Nat}
theorem VS.post{sc:SC}{Q Q':Exit->St->Prop}{S:St}(h:VS P nt sc Q S)(hq:∀e A,Q e A->∃A',(∀(E:En) (a:Act) (w:World) (L:Nat->Value),Rel E A a w L->∃L',Rel E A' a w L')/\Q' e A'):VS P nt sc Q' S:=
 fun c hs hc E hE hk a w L hr=>wpIn_mono (h c hs hc E hE hk a w L hr) fun e a' w' ⟨S',L',h1,h2⟩=>by
  obtain⟨A',h3,h4⟩:=hq e S' h2;obtain⟨L'',h5⟩:=h3 E a' w' L' h1;exact⟨A',L'',h5,h4⟩
theorem Rel.adZ(h:Rel E S a w L){id:Nat}{cs:List PV}(hid:id<S.N)(hc:(S.H id).c= .box cs):Rel E {S with H:=bO S.H id ⟨(S.H id).ao,.box (cs.map nz)⟩} a w L:=by
 have:=(h.sW (w':=w) hid ⟨(S.H id).ao,.box (cs.map nz)⟩ (L id) (.inl ⟨rfl,rfl,by rw[hc];rfl⟩) rfl rfl rfl (QI _) (fun _ _ _=>rfl) (fun b _ hb=> .inl ⟨by rw[hc];rfl,hb⟩) (fun hs hg=>by
  obtain⟨b,cur,T,h1,h2,h3,h4⟩:=h.rY hid hc
  exact⟨b,cur,T,h1,h2,h4,(h3.mono hs hg).nz⟩)).1
 rwa [Ed]at this
end
section
variable {U : TU}
def Us(S:aW U):RV->Option (KV U)
 | .tmp t=>some (S.env t)
 | .cell t n=>(match S.env t with
  | .ptr id ao off=>(match S.sB id ao with|some cs=>GA n (cs.drop off)|none=>none)
  |_=>none)
def OH(S:aW U):List RV->Option (List (KV U))
 |[]=>some []
 |r::rs=>(match Us S r with
  |some x=>(match OH S rs with|some xs=>some (x::xs)|none=>none)
  |none=>none)
def ab0:List (KV U)->KV U
 |[x]=>x
 |xs=> .dO xs
def Am(S:aW U)(rs:List RV):Option (KV U):=
 match OH S rs with
 |some xs=>some (ab0 xs)
 |none=>none
theorem X2{S:aW U}{r:RV}{x:KV U}(h:Us S r=some x):Bx S.st r=some x.pv:=by
 cases r with
 |tmp t=>injection h with h;subst h;rfl
 |cell t n=>
  simp only[Us]at h;split at h
  ·rename_i id ao off ht;split at h
   ·rename_i cs hb;obtain⟨h1,h2⟩:=vx hb;have h3:S.st.env t= .ptr id ao off:=by simp only[aW.st,ht,KV.pv]
    simp only[Bx,h3];rw[Qr h1,h2];have:=Bm h;rw[List.map_drop]at this;exact this
   ·cases h
  ·cases h
theorem Pn{S:aW U}:∀{rs:List RV} {xs:List (KV U)},OH S rs=some xs->wj S.st rs=some (xs.map KV.pv)
 |[],xs,h=>by injection h with h;subst h;rfl
 |r::rs,xs,h=>by
  simp only[OH]at h;split at h
  ·rename_i x hx;split at h
   ·rename_i ys hys;injection h with h
    subst h;simp only[wj,X2 hx,Pn hys,QD]
   ·cases h
  ·cases h
theorem Hs{S:aW U}{rs:List RV}{x:KV U}(h:Am S rs=some x):ua S.st rs=some x.pv:=by
 unfold Am at h;split at h
 ·rename_i xs hxs;injection h with h
  subst h;have:=Pn hxs;unfold ua;rw[this]
  match xs with
  |[]=>rfl
  |[x]=>rfl
  |x::y::l=>simp only[QD,ab0,KV.pv,KV.ct]
 ·cases h
variable (K : TK U)
def JL(S:aW U)(ex:Option Nat):(r:qg U)->KV U->Option r.den
 | .one T,x=>xh K S.lk T x
 | .many Ts,x=>(match x with| .dO xs=>OW K S.lk Ts xs|_=>none)
 | .fn a,x=>(match Nat.ble a.depth 9 with|true=>JN K S ex a x|false=>none)
variable {K}
theorem TR{S:aW U}{ex:Option Nat}(hex:∀id,ex=some id->∀e k T xs,(S.H id).c≠ .row e k T xs){r:qg U}{x:KV U}{v:r.den}(h:JL K S ex r x=some v):fz S.st.H ex 9 x.pv=uL r v:=by
 cases r with
 |one T=>exact I1 hex 7 h
 |many Ts=>
  simp only[JL]at h;split at h
  ·rename_i xs;rw[KV.pv,KV.ct,fz,uL,RC hex 6 Ts _ v h]
  ·cases h
 |fn a=>
  simp only[JL]at h;split at h
  ·rename_i hd;exact TT hex a 9 x v (QG hd) h
  ·cases h
variable (K)
def Se(A_s:List (KV U)):aW U:=
 {env:=fun t=>(A_s[t]?).getD .undef,H:=fun _=>⟨0,.dead⟩,N:=0}
def Zf(pos:Nat)(cs A_s:List (KV U)):aW U:=
 {env:=fun t=>((jg pos [KV.ptr 0 0 0] A_s)[t]?).getD .undef,H:=fun id=>(match Nat.beq id 0 with|true=>⟨0,.box cs⟩|false=>⟨0,.dead⟩),N:=1}
def Vd{ρ:Type}(ex:Option Nat)(rs:List RV)(r:qg U)(k:aW U->r.den->Option ρ)(e:Exit)(S:aW U):Option ρ:=
 match e with
 | .ret| .normal=>(match Am S rs with
  |some x=>(match JL K S ex r x with|some v=>k S v|none=>none)
  |none=>none)
 |_=>none
def Bj(S:aW U):List RV->Bool
 |[]=>true
 | .tmp _::l=>Bj S l
 | .cell t _::l=>(match S.env t with| .ptr id _ _=> !Nat.beq id 0|_=>false)&&Bj S l
 def Rq(Γ:List (dV U))(sa:SA U)(rs:List RV)(A_s:List (dz U))(r:qg U)(a:eu A_s):Option r.den:=
 oN K Γ sa [] (some (0,[])) (Vd K none rs r fun _ v=>some v) (Se (vB K A_s a))
 def rcK(Γ:List (dV U))(sa:SA U)(rs:List RV)(pos:Nat)(R:U.Ty)(A_s:List (dz U))(r:qg U)(s:U.den R)(a:eu A_s):Option (r.den×U.den R):=
 oN K Γ sa [] (some (0,[])) (Vd K (some 0) rs r fun S v=>(match Bj S rs with
  |true=>(match S.sB 0 0 with
   |some cs=>(match K.dec R oo cs with|some s'=>some (v,s')|none=>none)
   |none=>none)
  |false=>none)) (Zf pos (K.dS R s) (vB K A_s a))
 def nwK(Γ:List (dV U))(sa:SA U)(rs:List RV)(A_s:List (dz U))(R:U.Ty)(a:eu A_s):Option (U.den R):=
 oN K Γ sa [] (some (0,[])) (fun e S=>(match e with
  | .ret=>(match Am S rs with
   |some (.ptr id ao 0)=>(match S.sB id ao with|some cs=>K.dec R oo cs|none=>none)
   |_=>none)
  |_=>none)) (Se (vB K A_s a))
variable {K}
variable {P : Program} {nt : Nat}
theorem ze:∀(A_s:List (dz U)) (a:eu A_s),(gP A_s a).length=A_s.length
 |[],_=>by rw[gP];rfl
 |_::l,a=>by rw[gP,QE,ze l a.2,QE]
theorem M5(A_s:List (dz U))(a:eu A_s):(Se (vB K A_s a)).st=dJ 0 false [] (gP A_s a):=by
 unfold Se aW.st dJ;congr 1
 ·funext t
  rw[<-Ad K];simp only[Qq,Qu,NW,QT];cases (vB K A_s a)[t]?<;>rfl
theorem abV(pos:Nat)(R:U.Ty)(s:U.den R)(A_s:List (dz U))(a:eu A_s):(Zf pos (K.dS R s) (vB K A_s a)).st=dJ pos true (U.pv R s) (gP A_s a):=by
 unfold Zf aW.st dJ;congr 1
 ·funext t
  rw[<-Ad K];simp only[Qt];have:(jg pos [PV.ptr 0 0 0] ((vB K A_s a).map KV.pv))=(jg pos [KV.ptr 0 0 0] (vB K A_s a)).map KV.pv:=by simp[jg,KV.pv]
  rw[this,QT];cases (jg pos [KV.ptr 0 0 0] (vB K A_s a))[t]?<;>rfl
 ·funext id
  cases id with
  |zero=>simp only[and_self,Qt,dh.pv,dQ.pv,K.qE]
  |succ id=>simp[Nat.beq,dh.pv,dQ.pv]
theorem N5{ρ:Type}{ex:Option Nat}{rs:List RV}{r:qg U}{k:aW U->r.den->Option ρ}{e:Exit}{S:aW U}{z:ρ}(h:Vd K ex rs r k e S=some z):(e= .ret\/e= .normal)/\∃x v,Am S rs=some x/\JL K S ex r x=some v/\k S v=some z:=by
 unfold Vd at h
 have go:∀{o:Option ρ},o=some z->o=(match Am S rs with
  |some x=>(match JL K S ex r x with|some v=>k S v|none=>none)
  |none=>none)->∃x v,Am S rs=some x/\JL K S ex r x=some v/\k S v=some z:=by
  intro o ho he;rw[ho]at he;replace he:=he.symm;split at he
  ·rename_i x hx;split at he
   ·rename_i v hv;exact⟨x,v,hx,hv,he⟩
   ·cases he
  ·cases he
 split at h
 ·exact⟨.inl rfl,go h rfl⟩
 ·exact⟨.inr rfl,go h rfl⟩
 ·cases h
theorem GP{f:FuncId}{Γ:List (dV U)}{sa:SA U}{rs:List RV}{A_s:List (dz U)}{r:qg U}(hf:jZ P f nt sa.erase rs)(hok:sa.dC=true)(hlen:A_s.length<=nt)(hΓ:uZ P Γ){F:eu A_s->Option r.den}(hF:∀a,Rq K Γ sa rs A_s r a=F a):dV.Sound P (.fn f A_s r F):=by
 refine⟨hf.enters,fun a v hv=> ?_⟩
 rw[<-hF a]at hv;refine hf.Oc (by simpa[ze]using hlen) ?_
 rw[<-M5 (K:=K)];refine(eU hΓ sa [] _ _ _ _ hok hv).mono ?_;rintro e A ⟨S',rfl,_,hk⟩;obtain⟨he,x,v',h1,h2,h3⟩:=N5 hk;injection h3 with h3
 subst h3
 have hret:AP rs false (fun r' cs''=>r'=uL r v'/\(false=true->cs''=[])) S'.st:=by
  unfold AP;rw[Hs h1];exact⟨TR (fun id hid=>by cases hid) h2,fun h=>by cases h⟩
 rcases he with rfl|rfl<;>exact hret
theorem Wx{S:aW U}{id ao:Nat}{cs:List (KV U)}(hb:S.sB id ao=some cs){R:U.Ty}{s:U.den R}(hd:K.dec R oo cs=some s)(hN:id<S.N):(∀(E:En) (a:Act) (w:World) (L:Nat->Value),Rel E S.st a w L->∃L',Rel E {S.st with H:=bO S.st.H id ⟨ao,.box (U.pv R s)⟩} a w L'):=by
 intro E a w L h;obtain⟨h1,h2⟩:=vx hb;have:=h.adZ hN h2;rw[h1,(tG (K.mu _ _ _ _ hd)).1]at this;exact⟨L,this⟩
theorem Rm(K:TK U)(R:U.Ty)(s:U.den R):(U.pv R s).all PV.closed=true:=QH.2 fun y hy=>gI (K.gN R s y hy)
theorem V4{f:FuncId}{Γ:List (dV U)}{sa:SA U}{rs:List RV}{pos:Nat}{R:U.Ty}{A_s:List (dz U)}{r:qg U}(hf:jZ P f nt sa.erase rs)(hok:sa.dC=true)(hlen:1+A_s.length<=nt)(hΓ:uZ P Γ)
  {F:U.den R->eu A_s->Option (r.den×U.den R)} (hF:∀s a,rcK K Γ sa rs pos R A_s r s a=F s a):dV.Sound P (.rc f pos R A_s r F):=by
 refine⟨hf.enters,fun s a v s' hv=> ?_⟩
 rw[<-hF s a]at hv;refine hf.Oc (by simpa[ze]using hlen) ?_
 rw[<-abV (K:=K)];refine(eU hΓ sa [] _ _ _ _ hok hv).post ?_;rintro e A ⟨S',rfl,hfr,hk⟩;obtain⟨he,x,v',h1,h2,h3⟩:=N5 hk;split at h3
 case h_2=>cases h3
 rename_i hnc;split at h3
 ·rename_i cs hb;split at h3
  ·rename_i s'' hd;injection h3 with h3
   injection h3 with h4 h5
   subst h4 h5;have hN:0<S'.N:=QJ (show 0<1 from Nat.one_pos) hfr.N
   refine⟨_,Wx hb hd hN,?_⟩;have h6:=Hs h1
   have hres:∀rs:List RV,Bj S' rs=true->wj {S'.st with H:=bO S'.st.H 0 ⟨0,.box (U.pv R s'')⟩} rs=wj S'.st rs:=by
    intro rs hrs
    induction rs with
    |nil=>rfl
    |cons q rs ih=>
     cases q with
     |tmp t=>simp only[Bj]at hrs;simp only[wj,Bx,ih hrs]
     |cell t n=>
      simp only[Bj,Qm]at hrs;have h9:=hrs.1;split at h9
      ·rename_i id ao off ht;have hne:id≠0:=by intro e;subst e;simp at h9
       have h10:S'.st.env t= .ptr id ao off:=by simp only[aW.st,ht,KV.pv]
       simp only[wj,Bx,h10,cD _ _ hne,ih hrs.2]
      ·cases h9
   have hret:AP rs true (fun r' cs''=>r'=uL r v'/\(true=true->cs''=U.pv R s'')) {S'.st with H:=bO S'.st.H 0 ⟨0,.box (U.pv R s'')⟩}:=by
    unfold AP
    have h7:ua {S'.st with H:=bO S'.st.H 0 ⟨0,.box (U.pv R s'')⟩} rs=some x.pv:=by
     rw[<-h6];unfold ua;have h8:=hres rs hnc;simp only[h8]
    rw[h7];simp only[cr];refine⟨Rm K R s'',?_,by simp⟩
    have hbx:=(Ac hb).2;rw[<-TR (K:=K) (S:=S') (ex:=some 0) (fun id hid=>by injection hid with hid;subst hid;intro e k T xs hq;rw[hbx]at hq;cases hq) h2]
    have hz:∀(n:Nat) (y:PV),fz (bO S'.st.H 0 ⟨0,.box (U.pv R s'')⟩) (some 0) n y=fz S'.st.H (some 0) n y:=by
     intro n
     induction n with
     |zero=>intro y;simp only[fz]
     |succ n ih=>
      intro y;have hu:∀id,¬(some id=some 0)->bO S'.st.H 0 ⟨0,.box (U.pv R s'')⟩ id=S'.st.H id:=fun id hid=>cD _ _ (fun e=>hid (by rw[e]))
      have hm:fz (bO S'.st.H 0 ⟨0,.box (U.pv R s'')⟩) (some 0) n=fz S'.st.H (some 0) n:=funext ih
      cases y with
      |own id ao=>
       simp only[fz,hm]
       by_cases h0:some id=some 0
       ·rw[Qr (.inl h0),Qr (.inl h0)]
       ·rw[hu id h0]
      |ptr id ao off=>
       simp only[fz,hm]
       by_cases h0:some id=some 0
       ·rw[Qr (.inl h0),Qr (.inl h0)]
       ·rw[hu id h0]
      |agg cs=>simp only[fz,hm]
      |dO cs=>simp only[fz,hm]
      |bG f cs=>simp only[fz,hm]
      |_=>simp only[fz]
    exact hz 9 x.pv
   rcases he with rfl|rfl<;>exact hret
  ·cases h3
 ·cases h3
theorem Wy{f:FuncId}{Γ:List (dV U)}{sa:SA U}{t:Nat}{A_s:List (dz U)}{R:U.Ty}(hf:jZ P f nt sa.erase [.tmp t])(hok:sa.dC=true)(hlen:A_s.length<=nt)(hΓ:uZ P Γ){F:eu A_s->Option (U.den R)}(hF:∀a,nwK K Γ sa [.tmp t] A_s R a=F a):dV.Sound P (.nw f A_s R F):=by
 refine⟨hf.enters,fun a s hv=> ?_⟩
 rw[<-hF a]at hv;refine hf.afl (by simpa[ze]using hlen) ?_
 rw[<-M5 (K:=K)];intro c hs hc E hE hkt a' w L hr;refine wpIn_mono (eU hΓ sa [] _ _ _ _ hok hv c hs hc E hE hkt a' w L hr) ?_;rintro e a2 w2 ⟨A,L2,hrel,S',rfl,_,hk⟩;split at hk
 ·split at hk
  ·rename_i id ao hx;split at hk
   ·rename_i cs hb
    have hre:S'.st.env t= .ptr id ao 0:=by
     have:=Hs hx;simpa[ua,wj,Bx,KV.pv]using this
    have hN:id<S'.N:=by
     have:=hrel.env t;rw[hre]at this;exact(this.sn (show(S'.st.gh L2).V id=ao from(vx hb).1)).1
    obtain⟨L3,h3⟩:=Wx hb hk hN E a2 w2 L2 hrel;refine⟨_,L3,h3,?_⟩
    have h7:ua {S'.st with H:=bO S'.st.H id ⟨ao,.box (U.pv R s)⟩} [.tmp t]=some (.ptr id ao 0):=by
     simp only[ua,wj,Bx];rw[hre]
    simp only[PS];rw[h7];simp only[cr,Qt];exact⟨Rm K R s,trivial⟩
   ·cases hk
  ·cases hk
 ·cases hk
def Ze(e k:Nat)(T:U.Ty)(xs:List (U.den T))(A_s:List (KV U)):aW U:=
 {env:=fun t=>(((KV.own 0 0)::A_s)[t]?).getD .undef,H:=fun id=>(match Nat.beq id 0 with|true=>⟨0,.row e k T xs⟩|false=>⟨0,.dead⟩),N:=1}
theorem abU(e k:Nat)(T:U.Ty)(xs:List (U.den T))(A_s:List (dz U))(a:eu A_s):(Ze e k T xs (vB K A_s a)).st=tI e k (xs.map (U.pv T)) (gP A_s a):=by
 unfold Ze aW.st tI;congr 1
 ·funext t
  rw[<-Ad K]
  cases t with
  |zero=>rfl
  |succ t=>
   simp only[List.getElem?_cons_succ,QT];cases (vB K A_s a)[t]?<;>rfl
 ·funext id
  cases id with
  |zero=>simp[dh.pv,dQ.pv]
  |succ id=>simp[Nat.beq,dh.pv,dQ.pv]
variable (K)
def rowAt(S:aW U)(id ao e k:Nat)(T:U.Ty):Option (List (U.den T)):=
 match S.row? id ao with
 |some r=>(match Nat.beq r.e e&&Nat.beq r.k k with|true=>zz r.T T r.xs|false=>none)
 |none=>none
theorem Ur{S:aW U}{id ao e k:Nat}{T:U.Ty}{xs:List (U.den T)}(h:rowAt S id ao e k T=some xs):(S.H id).ao=ao/\(S.H id).c= .row e k T xs:=by
 unfold rowAt at h;split at h
 ·rename_i r hr;obtain⟨h1,h2⟩:=CA hr;split at h
  ·rename_i hek;rw[Qm]at hek;obtain⟨eT,rfl⟩:=nO h;obtain⟨re,rk,rT,rxs⟩:=r;simp only at eT h2 hek;subst eT;exact⟨h1,by rw[h2,QF hek.1,QF hek.2]⟩
  ·cases h
 ·cases h
def Ve{ρ:Type}(rs:List RV)(e k:Nat)(T:U.Ty)(j:List (U.den T)->Option ρ)(en:Exit)(S:aW U):Option ρ:=
 match en with
 | .ret| .normal=>(match Am S rs with
  |some (.own id ao)=>(match rowAt S id ao e k T with|some ys=>j ys|none=>none)
  |_=>none)
 |_=>none
 def cwK(Γ:List (dV U))(sa:SA U)(rs:List RV)(e k:Nat)(T:U.Ty)(A_s:List (dz U))(xs:List (U.den T))(a:eu A_s):Option (List (U.den T)):=
 oN K Γ sa [] (some (0,[])) (Ve rs e k T fun ys=>some ys) (Ze e k T xs (vB K A_s a))
 def fwK(Γ:List (dV U))(sa:SA U)(rs:List RV)(A_s:List (dz U))(e k:Nat)(T:U.Ty)(a:eu A_s):Option (List (U.den T)):=
 oN K Γ sa [] (some (0,[])) (Ve rs e k T fun ys=>some ys) (Se (vB K A_s a))
variable {K}
theorem N6{ρ:Type}{rs:List RV}{e k:Nat}{T:U.Ty}{j:List (U.den T)->Option ρ}{en:Exit}{S:aW U}{z:ρ}(h:Ve rs e k T j en S=some z):
  (en= .ret\/en= .normal)/\∃id ao ys,Am S rs=some (.own id ao)/\(S.H id).ao=ao/\(S.H id).c= .row e k T ys/\j ys=some z:=by
 have go:(match Am S rs with
  |some (.own id ao)=>(match rowAt S id ao e k T with|some ys=>j ys|none=>none)
  |_=>none)=some z->∃id ao ys,Am S rs=some (.own id ao)/\(S.H id).ao=ao/\(S.H id).c= .row e k T ys/\j ys=some z:=by
  intro he;split at he
  ·rename_i id ao hx;split at he
   ·rename_i ys hys;obtain⟨h1,h2⟩:=Ur hys;exact⟨id,ao,ys,hx,h1,h2,he⟩
   ·cases he
  ·cases he
 unfold Ve at h;split at h
 ·exact⟨.inl rfl,go h⟩
 ·exact⟨.inr rfl,go h⟩
 ·cases h
theorem Rx{rs:List RV}{e k:Nat}{T:U.Ty}{S':aW U}{id ao:Nat}{ys:List (U.den T)}(h1:Am S' rs=some (.own id ao))(h2:(S'.H id).ao=ao)(h3:(S'.H id).c= .row e k T ys)(K:TK U):CX rs e k (fun es''=>es''=ys.map (U.pv T)) .ret S'.st:=by
 simp only[CX];rw[Hs h1];simp only[KV.pv];refine⟨h2,?_⟩;have:(S'.st.H id).c= .row e k (ys.map (U.pv T)):=by simp only[aW.st,dh.pv,h3,dQ.pv]
 rw[this];exact⟨rfl,rfl,yI K T ys,rfl⟩
theorem Xg{f:FuncId}{Γ:List (dV U)}{sa:SA U}{rs:List RV}{e k:Nat}{T:U.Ty}{A_s:List (dz U)}(hf:jZ P f nt sa.erase rs)(hok:sa.dC=true)(hlen:1+A_s.length<=nt)(hΓ:uZ P Γ)
  {F:List (U.den T)->eu A_s->Option (List (U.den T))} (hF:∀xs a,cwK K Γ sa rs e k T A_s xs a=F xs a):dV.Sound P (.cw f e k T A_s F):=by
 refine⟨hf.enters,fun xs a ys hv=> ?_⟩
 rw[<-hF xs a]at hv;refine hf.afn (by simpa[ze]using hlen) ?_
 rw[<-abU (K:=K)];refine(eU hΓ sa [] _ _ _ _ hok hv).mono ?_;rintro en A ⟨S',rfl,_,hk⟩;obtain⟨he,id,ao,ys',h1,h2,h3,h5⟩:=N6 hk;injection h5 with h5
 subst h5;have hret:=Rx h1 h2 h3 K;rcases he with rfl|rfl<;>exact hret
theorem WZ{f:FuncId}{Γ:List (dV U)}{sa:SA U}{rs:List RV}{e k:Nat}{T:U.Ty}{A_s:List (dz U)}(hf:jZ P f nt sa.erase rs)(hok:sa.dC=true)(hlen:A_s.length<=nt)(hΓ:uZ P Γ)
  {F:eu A_s->Option (List (U.den T))} (hF:∀a,fwK K Γ sa rs A_s e k T a=F a):dV.Sound P (.fw f A_s e k T F):=by
 refine⟨hf.enters,fun a ys hv=> ?_⟩
 rw[<-hF a]at hv;refine hf.afm (by simpa[ze]using hlen) ?_
 rw[<-M5 (K:=K)];refine(eU hΓ sa [] _ _ _ _ hok hv).mono ?_;rintro en A ⟨S',rfl,_,hk⟩;obtain⟨he,id,ao,ys',h1,h2,h3,h5⟩:=N6 hk;injection h5 with h5
 subst h5;have hret:=Rx h1 h2 h3 K;rcases he with rfl|rfl<;>exact hret
end
end
section
def op{U:TU}(d:Nat)(x:bP)(r:RS U):RS U:= .op ⟨some d,none,x⟩ r
def ops{U:TU}(x:bP)(r:RS U):RS U:= .op ⟨none,none,x⟩ r
def tm(t:Nat):bo:= .tmp t
def ci(n:Int):bo:= .w5 (.int .i64 n)
def ld{U:TU}(d t:Nat)(r:RS U):RS U:=op d (.load none (tm t)) r
def cl{U:TU}(d f:Nat)(l:List Nat)(r:RS U):RS U:=op d (.call f (l.map tm)) r
def ay(k:IntKind)(a b:Int):Int:=k.wrap (a+b)
def dm(k:IntKind)(a b:Int):Int:=k.wrap (a - b)
def oq(k:IntKind)(a b:Int):Int:=k.wrap (a*b)
def xk(_:IntKind)(a b:Int):Int:=a.tmod b
def B7(k:IntKind)(a b:Int):Int:=k.wrap ((BitVec.ofInt k.bits a&&&BitVec.ofInt k.bits b).toNat)
def oi(k:IntKind)(a b:Int):Int:=k.wrap ((BitVec.ofInt k.bits a|||BitVec.ofInt k.bits b).toNat)
def du(k:IntKind)(a b:Int):Int:=k.wrap ((BitVec.ofInt k.bits a^^^BitVec.ofInt k.bits b).toNat)
def zf(k:IntKind)(a b:Int):Int:=k.wrap ((BitVec.ofInt k.bits a&&& ~~~ BitVec.ofInt k.bits b).toNat)
def bS(k:IntKind)(a b:Int):Int:=k.wrap (a*2 ^ (min b.toNat k.bits))
def lC(k:IntKind)(a b:Int):Int:=a.fdiv (2 ^ (min b.toNat k.bits))
def bq(k:IntKind)(n:Int):Int:=k.wrap n
def cm(a b:Int):Int:=if b<a then b else a
def bB(a b:Int):Int:=if b>a then b else a
def lu(neg:Bool)(a b:Int)(s t:ByteArray):Bool:=xor neg (decide (a=b)&&decide (s=t))
def jf{A R:Type}(B:(A->Option R)->A->Option R):Nat->A->Option R
 |0,_=>none
 |n+1,a=>B (jf B n) a
section
variable {U : TU}
inductive RN (U:TU) where
 |ps (p:Ps U)
 |Ay (t:Nat)
def XQ(t:Nat):List SG->Option (List SG×SG×List SG)
 |[]=>none
 |o::r=>(match o.op with
  | .pick (.tmp t') _ _=>(match Nat.beq t t' with
   |true=>some ([],o,r)
   |false=>(match XQ t r with|some (b,q,r')=>some (o::b,q,r')|none=>none))
  |_=>(match XQ t r with|some (b,q,r')=>some (o::b,q,r')|none=>none))
def before(n:Nat):List (Nat×RN U)->List (Nat×RN U)
 |[]=>[]
 |(j,x)::l=>(match Nat.ble n j with|true=>[]|false=>(j,x)::before n l)
def after(n:Nat):List (Nat×RN U)->List (Nat×RN U)
 |[]=>[]
 |(j,x)::l=>(match Nat.ble n j with|true=>(j,x)::l|false=>after n l)
def yC(tC:Bool):Nat->List Nat->Nat->List SG->List (Nat×RN U)->RS U
 |0,_,_,_,_=> .nil
 |f+1,kn,i,[],ns=>(match ns with
  |(_,.ps p)::ns'=> .ps p (yC tC f kn i [] ns')
  |(_,.Ay t)::ns'=> .Ay t (yC tC f (t::kn) i [] ns')
  |[]=> .nil)
 |f+1,kn,i,o::r,ns=>(match(match ns with|(j,_)::_=>Nat.beq j i|[]=>false)with
  |true=>(match ns with
   |(_,.ps p)::ns'=> .ps p (yC tC f kn i (o::r) ns')
   |(_,.Ay t)::ns'=> .Ay t (yC tC f (t::kn) i (o::r) ns')
   |[]=> .nil)
  |false=>(match o.g with
   |none=> .op o (yC tC f kn (Nat.succ i) r ns)
   |some (t,w)=>(match iB t kn with
    |true=> .op o (yC tC f kn (Nat.succ i) r ns)
    |false=>(match tC with
     |true=> .Ay t (yC tC f (t::kn) i (o::r) ns)
     |false=>(match XQ t (o::r)with
      |some (b,q,r')=>(match q.op with
       | .pick _ x y=> .ite t w (yC tC f (t::kn) i b (before (Nat.add i b.length) ns)) (q.d.getD 0) q.g x y (yC tC f kn (Nat.succ (Nat.add i b.length)) r' (after (Nat.add i b.length) ns))
       |_=> .nil)
      |none=> .nil)))))
inductive NT (U:TU) where
 |e
 |l (x:NT U)
 |r (x:NT U)
 |b (x y:NT U)
 |ps (p:Ps U) (x:NT U)
 |Iy (p:Ps U) (x:NT U)
 |j (J:JS U) (x:NT U)
 |u (n:Nat) (x:NT U)
 |k (J:JS U) (f k:Nat) (nE:Option Nat) (T:U.Ty) (x:NT U)
 |g (ns:List (Nat×RN U))
def NT.lt:NT U->NT U
 | .l x=>x
 | .b x _=>x
 | .j _ x=>x.lt
 | .k _ _ _ _ _ x=>x.lt
 | .ps _ x=>x.lt
 | .Iy _ x=>x.lt
 |_=> .e
def NT.rt:NT U->NT U
 | .r x=>x
 | .b _ x=>x
 | .j _ x=>x.rt
 | .k _ _ _ _ _ x=>x.rt
 | .ps _ x=>x.rt
 | .Iy _ x=>x.rt
 |_=> .e
def NT.wrap:NT U->SA U->SA U
 | .ps p x,s=> .ps p (x.wrap s)
 | .Iy p x,s=> .Iy p (x.wrap s)
 |_,s=>s
def NT.core:NT U->NT U
 | .ps _ x=>x.core
 | .Iy _ x=>x.core
 |x=>x
def gz:SC->NT U->SA U
 | .skip,t=>t.wrap .skip
 | .xl ops,t=>t.wrap (.xl (match t.core with| .g ns=>yC false 4000 [] 0 ops ns|_=>yC false 4000 [] 0 ops []))
 | .tC un ops,t=>t.wrap (.tC un (match t.core with| .g ns=>yC true 4000 [] 0 ops ns|_=>yC true 4000 [] 0 ops []))
 | .seq x y,t=>t.wrap (match t.core with
  | .j J u=> .join J (gz x u.lt) (gz y u.rt)
  |u=> .seq (gz x u.lt) (gz y u.rt))
 | .cond c x y,t=>t.wrap (.cond c (gz x t.lt) (gz y t.rt))
 | .block id x,t=>t.wrap (.block id (gz x t.lt))
 | .loop x,t=>t.wrap (match t.core with
  | .j J u=> .loop J (gz x u.lt)
  | .u n t=> .VW n (gz x t.lt)
  |_=> .loop ⟨[],[]⟩ (gz x t.lt))
 | .Fy g ps x y,t=>t.wrap (match t.core with
  | .k J f k nE T u=>(match g with
   | .tmp tg=> .back J f k nE T tg (ps.headD 0) (ps.tail.headD 0) (gz x u.lt) (gz y u.rt)
   |_=> .skip)
  |_=> .skip)
 | .exit id,t=>t.wrap (.exit id)
 | .ret,t=>t.wrap .ret
def kR(P:Program)(nt:Nat)(hs:List Nat)(fn:Func):SC:=(fn.body.bind (aO P nt hs)).getD .skip
end
section
variable {U : TU} {P : Program}
structure KS (U:TU) (P:Program) where
 k:dV U
 s:k.Sound P
def KS.ks:List (KS U P)->List (dV U)
 |[]=>[]
 |x::l=>x.k::KS.ks l
theorem KS.all:∀l:List (KS U P),uZ P (KS.ks l)
 |[]=>trivial
 |x::l=>⟨x.s,KS.all l⟩
variable {K : TK U} {f : FuncId} {A_s : List (dz U)} {r : qg U} {e k : Nat} {T R : U.Ty}
theorem fk{f nt:Nat}{c:SC}{rs:List RV}(fn:Func)(hs:List Nat)(hf:P.funcs[f]?=some fn)(h0:fn.ntmps=nt:=by rfl)(h1:(fn.body.bind (aO P nt hs))=some c:=by kernel_rfl)(h2:lT P fn.results.toList=some rs:=by kernel_rfl)(h3:(fn.name== "runtime.NumGoroutine")=false:=by kernel_rfl):jZ P f nt c rs:=⟨fn,hs,hf,h0,h1,h2,h3⟩
theorem fnS(sa:SA U)(nt:Nat)(rs:List RV)(G:List (KS U P))(hf:jZ P f nt sa.erase rs)(hok:sa.dC=true:=by kernel_rfl)(hlen:A_s.length<=nt:=by decide){F:eu A_s->Option r.den}(hF:Rq K (KS.ks G) sa rs A_s r=F:=by kernel_rfl):dV.Sound P (.fn f A_s r F):=
 GP hf hok hlen (KS.all G) fun a=>congrFun hF a
theorem rcS{pos:Nat}(sa:SA U)(nt:Nat)(rs:List RV)(G:List (KS U P))(hf:jZ P f nt sa.erase rs)(hok:sa.dC=true:=by kernel_rfl)(hlen:1+A_s.length<=nt:=by decide){F:U.den R->eu A_s->Option (r.den×U.den R)}(hF:rcK K (KS.ks G) sa rs pos R A_s r=F:=by kernel_rfl):dV.Sound P (.rc f pos R A_s r F):=
 V4 hf hok hlen (KS.all G) fun s a=>congrFun (congrFun hF s) a
theorem roS{pos:Nat}{F:U.den R->eu A_s->Option (r.den×U.den R)}(h:dV.Sound P (.rc f pos R A_s r F))(hs:∀s a q,F s a=some q->q.2=s):dV.Sound P (.ro f pos R A_s r F):=
 ⟨h.1,fun s a v s' hv=>⟨hs s a _ hv,h.2 s a v s' hv⟩⟩
theorem nwS(sa:SA U)(nt t:Nat)(G:List (KS U P))(hf:jZ P f nt sa.erase [.tmp t])(hok:sa.dC=true:=by kernel_rfl)(hlen:A_s.length<=nt:=by decide){F:eu A_s->Option (U.den R)}(hF:nwK K (KS.ks G) sa [.tmp t] A_s R=F:=by kernel_rfl):dV.Sound P (.nw f A_s R F):=
 Wy hf hok hlen (KS.all G) fun a=>congrFun hF a
theorem RG(sa:SA U)(nt:Nat)(rs:List RV)(G:List (KS U P))(hf:jZ P f nt sa.erase rs)(hok:sa.dC=true:=by kernel_rfl)(hlen:1+A_s.length<=nt:=by decide){F:List (U.den T)->eu A_s->Option (List (U.den T))}(hF:cwK K (KS.ks G) sa rs e k T A_s=F:=by kernel_rfl):dV.Sound P (.cw f e k T A_s F):=
 Xg hf hok hlen (KS.all G) fun s a=>congrFun (congrFun hF s) a
theorem WY(sa:SA U)(nt:Nat)(rs:List RV)(G:List (KS U P))(hf:jZ P f nt sa.erase rs)(hok:sa.dC=true:=by kernel_rfl)(hlen:A_s.length<=nt:=by decide){F:eu A_s->Option (List (U.den T))}(hF:fwK K (KS.ks G) sa rs A_s e k T=F:=by kernel_rfl):dV.Sound P (.fw f A_s e k T F):=
 WZ hf hok hlen (KS.all G) fun a=>congrFun hF a
theorem fnR(sa:SA U)(nt:Nat)(rs:List RV)(G:List (KS U P))(hf:jZ P f nt sa.erase rs)(hok:sa.dC=true:=by kernel_rfl)(hlen:A_s.length<=nt:=by decide){B:(eu A_s->Option r.den)->eu A_s->Option r.den}(hB:(fun g=>Rq K (.fn f A_s r g::KS.ks G) sa rs A_s r)=B):∀n,dV.Sound P (.fn f A_s r (jf B n))
 |0=>⟨hf.enters,fun a r h=>by cases h⟩
 |n+1=>GP (K:=K) (Γ:= .fn f A_s r (jf B n)::KS.ks G) (F:=jf B (n+1)) hf hok hlen ⟨fnR sa nt rs G hf hok hlen hB n,KS.all G⟩ fun a=>congrFun (congrFun hB (jf B n)) a
theorem GO(sa:SA U)(nt:Nat)(rs:List RV)(G:List (KS U P))(hf:jZ P f nt sa.erase rs)(hok:sa.dC=true:=by kernel_rfl)(hlen:A_s.length<=nt:=by decide){B:(eu A_s->Option r.den)->eu A_s->Option r.den}(hB:(fun g=>Rq K (.fn f A_s r g::KS.ks G) sa rs A_s r)=B:=by kernel_rfl){F:eu A_s->Option r.den}(hF:∀a,∃n,F a=jf B n a):dV.Sound P (.fn f A_s r F):=
 ⟨hf.enters,fun a r h=>by
  obtain⟨n,hn⟩:=hF a;rw[hn]at h
  exact(fnR sa nt rs G hf hok hlen hB n).2 a r h⟩
theorem U4(sa:SA U)(nt:Nat)(rs:List RV)(G:(g:eu A_s->Option r.den)->dV.Sound P (.fn f A_s r g)->List (KS U P))(hf:jZ P f nt sa.erase rs)(hok:sa.dC=true:=by kernel_rfl)(hlen:A_s.length<=nt:=by decide){B:(eu A_s->Option r.den)->eu A_s->Option r.den}(hB:(fun g h=>Rq K (.fn f A_s r g::KS.ks (G g h)) sa rs A_s r)=fun g _=>B g):∀n,dV.Sound P (.fn f A_s r (jf B n))
 |0=>⟨hf.enters,fun a r h=>by cases h⟩
 |n+1=>GP (K:=K) (Γ:= .fn f A_s r (jf B n)::KS.ks (G (jf B n) (U4 sa nt rs G hf hok hlen hB n))) (F:=jf B (n+1)) hf hok hlen ⟨U4 sa nt rs G hf hok hlen hB n,KS.all _⟩ fun a=>congrFun (congrFun (congrFun hB (jf B n)) (U4 sa nt rs G hf hok hlen hB n)) a
theorem aei(sa:SA U)(nt:Nat)(rs:List RV)(G:(g:eu A_s->Option r.den)->dV.Sound P (.fn f A_s r g)->List (KS U P))(hf:jZ P f nt sa.erase rs)(hok:sa.dC=true:=by kernel_rfl)(hlen:A_s.length<=nt:=by decide){B:(eu A_s->Option r.den)->eu A_s->Option r.den}(hB:(fun g h=>Rq K (.fn f A_s r g::KS.ks (G g h)) sa rs A_s r)=(fun g _=>B g):=by kernel_rfl){F:eu A_s->Option r.den}(hF:∀a,∃n,F a=jf B n a):dV.Sound P (.fn f A_s r F):=
 ⟨hf.enters,fun a r h=>by
  obtain⟨n,hn⟩:=hF a;rw[hn]at h
  exact(U4 sa nt rs G hf hok hlen hB n).2 a r h⟩
end
end
section
structure al where
 aL:Int
 bb:(List Int)
 aN:(List al)
theorem al.eta(x:al):al.mk x.aL x.bb x.aN=x:=by cases x;rfl
@[reducible] def av (x:al):al:=al.mk x.aL x.bb x.aN
structure az where
 aq:Int
 aF:Int
 ai:al
 ba:(List ByteArray)
 aB:(List ByteArray)
@[simp] theorem az.eta (x:az):az.mk x.aq x.aF x.ai x.ba x.aB=x:=rfl
structure ar where
 aq:Int
 bl:Int
 Round:Int
 aF:Int
 ai:al
 lL:ByteArray
 ba:(List ByteArray)
 aB:(List ByteArray)
 aG:(List ByteArray)
 aw:(List az)
@[simp] theorem ar.eta (x:ar):ar.mk x.aq x.bl x.Round x.aF x.ai x.lL x.ba x.aB x.aG x.aw=x:=rfl
structure af where
 ae:Int
 Value:ByteArray
@[simp] theorem af.eta (x:af):af.mk x.ae x.Value=x:=rfl
structure aj where
 aq:Int
 bl:Int
 aF:Int
 ai:al
 bL:Int
 aa:af
 an:af
 ax:af
 aS:Int
 bn:Int
@[simp] theorem aj.eta (x:aj):aj.mk x.aq x.bl x.aF x.ai x.bL x.aa x.an x.ax x.aS x.bn=x:=rfl
structure ab where
 aq:Int
 bl:Int
 aF:Int
 ai:al
 aH:Int
 aa:af
 an:af
 ax:af
 au:af
 aS:Int
 bn:Int
 aY:ByteArray
 aw:(List aj)
@[simp] theorem ab.eta (x:ab):ab.mk x.aq x.bl x.aF x.ai x.aH x.aa x.an x.ax x.au x.aS x.bn x.aY x.aw=x:=rfl
structure dy where
 ae:Int
 yx:Int
@[simp] theorem dy.eta (x:dy):dy.mk x.ae x.yx=x:=rfl
structure bJ where
 aD:ar
 ak:ab
 Timer:dy
 Round:Int
 Next:Int
 wP:Bool
 Value:ByteArray
@[simp] theorem bJ.eta (x:bJ):bJ.mk x.aD x.ak x.Timer x.Round x.Next x.wP x.Value=x:=rfl
structure jF where
 bL:Int
 bl:Int
 cv:az
 aJ:aj
@[simp] theorem jF.eta (x:jF):jF.mk x.bL x.bl x.cv x.aJ=x:=rfl
structure qH where
 L:(List Int)
 At:Int
@[simp] theorem qH.eta (x:qH):qH.mk x.L x.At=x:=rfl
structure aE where
 ak:ab
@[simp] theorem aE.eta (x:aE):aE.mk x.ak=x:=rfl
structure aR where
 dG:Bool
 ai:al
@[simp] theorem aR.eta (x:aR):aR.mk x.dG x.ai=x:=rfl
structure aU where
 bj:(List aR)
@[simp] theorem aU.eta (x:aU):aU.mk x.bj=x:=rfl
structure bC where
 aJ:aj
@[simp] theorem bC.eta (x:bC):bC.mk x.aJ=x:=rfl
structure gk where
 aq:Int
 View:aU
 aw:(List bC)
@[simp] theorem gk.eta (x:gk):gk.mk x.aq x.View x.aw=x:=rfl
structure gR where
 rH:Int
 Value:Int
@[simp] theorem gR.eta (x:gR):gR.mk x.rH x.Value=x:=rfl
structure cu where
 aq:Int
 aF:Int
 ai:al
 ba:(List gR)
 aB:(List gR)
@[simp] theorem cu.eta (x:cu):cu.mk x.aq x.aF x.ai x.ba x.aB=x:=rfl
structure Fo where
 aT:Int
 low:Int
 bV:Int
 aQ:af
 eG:af
 bW:af
 dL:af
@[simp] theorem Fo.eta (x:Fo):Fo.mk x.aT x.low x.bV x.aQ x.eG x.bW x.dL=x:=rfl
structure eA where
 Oo:Int
 Oq:Int
@[simp] theorem eA.eta (x:eA):eA.mk x.Oo x.Oq=x:=rfl
structure qb where
 c0:af
 c1:af
@[simp] theorem qb.eta (x:qb):qb.mk x.c0 x.c1=x:=rfl
structure wI where
 c0:Int
 c1:Int
@[simp] theorem wI.eta (x:wI):wI.mk x.c0 x.c1=x:=rfl
attribute [simp] al.eta
inductive mQ where
 |ai
 |cv
 |aD
 |aa
 |aJ
 |ak
 |Timer
 |bl
 |pD
 |Src
 |vF
 |qJ
 |Config
 |uv
 |Seen
 |Claim
 |Message
 |lL
 |zi
 |nU
 |sv
 deriving DecidableEq
inductive Ty where
 |i (k:IntKind)
 |bool
 |str
 |sl (t:Ty)
 |mp (a b:Ty)
 |st (n:mQ)
def mQ.den:mQ->Type
 | .ai=>al
 | .cv=>az
 | .aD=>ar
 | .aa=>af
 | .aJ=>aj
 | .ak=>ab
 | .Timer=>dy
 | .bl=>bJ
 | .pD=>jF
 | .Src=>qH
 | .vF=>aE
 | .qJ=>aR
 | .Config=>aU
 | .uv=>bC
 | .Seen=>gk
 | .Claim=>gR
 | .Message=>cu
 | .lL=>Fo
 | .zi=>eA
 | .nU=>qb
 | .sv=>wI
def Ty.den:Ty->Type
 | .i _=>Int
 | .bool=>Bool
 | .str=>ByteArray
 | .sl t=>List t.den
 | .mp a b=>List (a.den×b.den)
 | .st n=>n.den
def Ty.beq:Ty->Ty->Bool
 | .i k,.i k'=>decide (k=k')
 | .bool,.bool=>true
 | .str,.str=>true
 | .sl t,.sl t'=>Ty.beq t t'
 | .mp a b,.mp a' b'=>Ty.beq a a'&&Ty.beq b b'
 | .st n,.st n'=>decide (n=n')
 |_,_=>false
theorem Ty.eq_of_beq:∀{a b:Ty},Ty.beq a b=true->a=b
 | .i k,.i k',h=>by rw[of_decide_eq_true h]
 | .bool,.bool,_=>rfl
 | .str,.str,_=>rfl
 | .sl t,.sl t',h=>by rw[Ty.eq_of_beq (a:=t) (b:=t') h]
 | .mp a b,.mp a' b',h=>by
  rw[Ty.beq,Qm]at h;rw[Ty.eq_of_beq (a:=a) (b:=a') h.1,Ty.eq_of_beq (a:=b) (b:=b') h.2]
 | .st n,.st n',h=>by rw[of_decide_eq_true h]
 | .i _,.bool,h=>by cases h
 | .i _,.str,h=>by cases h
 | .i _,.sl _,h=>by cases h
 | .i _,.st _,h=>by cases h
 | .bool,.i _,h=>by cases h
 | .bool,.str,h=>by cases h
 | .bool,.sl _,h=>by cases h
 | .bool,.st _,h=>by cases h
 | .str,.i _,h=>by cases h
 | .str,.bool,h=>by cases h
 | .str,.sl _,h=>by cases h
 | .str,.st _,h=>by cases h
 | .sl _,.i _,h=>by cases h
 | .sl _,.bool,h=>by cases h
 | .sl _,.str,h=>by cases h
 | .sl _,.st _,h=>by cases h
 | .st _,.i _,h=>by cases h
 | .st _,.bool,h=>by cases h
 | .st _,.str,h=>by cases h
 | .st _,.sl _,h=>by cases h
 | .mp _ _,.i _,h=>by cases h
 | .i _,.mp _ _,h=>by cases h
 | .mp _ _,.bool,h=>by cases h
 | .bool,.mp _ _,h=>by cases h
 | .mp _ _,.str,h=>by cases h
 | .str,.mp _ _,h=>by cases h
 | .mp _ _,.sl _,h=>by cases h
 | .sl _,.mp _ _,h=>by cases h
 | .mp _ _,.st _,h=>by cases h
 | .st _,.mp _ _,h=>by cases h
theorem Ty.Fh:∀(a:Ty),Ty.beq a a=true
 | .i k=>Qg rfl
 | .bool=>rfl
 | .str=>rfl
 | .sl t=>Ty.Fh t
 | .mp a b=>by rw[Ty.beq,Ty.Fh a,Ty.Fh b];rfl
 | .st n=>Qg rfl
def Ty.TP(a b:Ty):Decidable (a=b):=
 match h:Ty.beq a b with
 |true=>isTrue (Ty.eq_of_beq h)
 |false=>isFalse fun e=>by rw[e,Ty.Fh]at h;cases h
@[reducible] def Cd:List Ty->Type
 |[]=>Unit
 |t::l=>t.den×Cd l
def mQ.leaves:mQ->List Ty
 | .ai=>[(Ty.i .i64),(Ty.sl (Ty.i .i64)),(Ty.sl (Ty.st .ai))]
 | .cv=>[(Ty.i .i64),(Ty.i .i64),(Ty.i .i64),(Ty.sl (Ty.i .i64)),(Ty.sl (Ty.st .ai)),(Ty.sl Ty.str),(Ty.sl Ty.str)]
 | .aD=>[(Ty.i .i64),(Ty.i .i64),(Ty.i .i64),(Ty.i .i64),(Ty.i .i64),(Ty.sl (Ty.i .i64)),(Ty.sl (Ty.st .ai)),Ty.str,(Ty.sl Ty.str),(Ty.sl Ty.str),(Ty.sl Ty.str),(Ty.sl (Ty.st .cv))]
 | .aa=>[(Ty.i .i64),Ty.str]
 | .aJ=>[(Ty.i .i64),(Ty.i .i64),(Ty.i .i64),(Ty.i .i64),(Ty.sl (Ty.i .i64)),(Ty.sl (Ty.st .ai)),(Ty.i .i64),(Ty.i .i64),Ty.str,(Ty.i .i64),Ty.str,(Ty.i .i64),Ty.str,(Ty.i .i64),(Ty.i .i64)]
 | .ak=>[(Ty.i .i64),(Ty.i .i64),(Ty.i .i64),(Ty.i .i64),(Ty.sl (Ty.i .i64)),(Ty.sl (Ty.st .ai)),(Ty.i .i64),(Ty.i .i64),Ty.str,(Ty.i .i64),Ty.str,(Ty.i .i64),Ty.str,(Ty.i .i64),Ty.str,(Ty.i .i64),(Ty.i .i64),Ty.str,(Ty.sl (Ty.st .aJ))]
 | .Timer=>[(Ty.i .i64),(Ty.i .i64)]
 | .bl=>[(Ty.i .i64),(Ty.i .i64),(Ty.i .i64),(Ty.i .i64),(Ty.i .i64),(Ty.sl (Ty.i .i64)),(Ty.sl (Ty.st .ai)),Ty.str,(Ty.sl Ty.str),(Ty.sl Ty.str),(Ty.sl Ty.str),(Ty.sl (Ty.st .cv)),(Ty.i .i64),(Ty.i .i64),(Ty.i .i64),(Ty.i .i64),(Ty.sl (Ty.i .i64)),(Ty.sl (Ty.st .ai)),(Ty.i .i64),(Ty.i .i64),Ty.str,(Ty.i .i64),Ty.str,(Ty.i .i64),Ty.str,(Ty.i .i64),Ty.str,(Ty.i .i64),(Ty.i .i64),Ty.str,(Ty.sl (Ty.st .aJ)),(Ty.i .i64),(Ty.i .i64),(Ty.i .i64),(Ty.i .i64),Ty.bool,Ty.str]
 | .pD=>[(Ty.i .i64),(Ty.i .i64),(Ty.i .i64),(Ty.i .i64),(Ty.i .i64),(Ty.sl (Ty.i .i64)),(Ty.sl (Ty.st .ai)),(Ty.sl Ty.str),(Ty.sl Ty.str),(Ty.i .i64),(Ty.i .i64),(Ty.i .i64),(Ty.i .i64),(Ty.sl (Ty.i .i64)),(Ty.sl (Ty.st .ai)),(Ty.i .i64),(Ty.i .i64),Ty.str,(Ty.i .i64),Ty.str,(Ty.i .i64),Ty.str,(Ty.i .i64),(Ty.i .i64)]
 | .Src=>[(Ty.sl (Ty.i .i64)),(Ty.i .i64)]
 | .vF=>[(Ty.i .i64),(Ty.i .i64),(Ty.i .i64),(Ty.i .i64),(Ty.sl (Ty.i .i64)),(Ty.sl (Ty.st .ai)),(Ty.i .i64),(Ty.i .i64),Ty.str,(Ty.i .i64),Ty.str,(Ty.i .i64),Ty.str,(Ty.i .i64),Ty.str,(Ty.i .i64),(Ty.i .i64),Ty.str,(Ty.sl (Ty.st .aJ))]
 | .qJ=>[Ty.bool,(Ty.i .i64),(Ty.sl (Ty.i .i64)),(Ty.sl (Ty.st .ai))]
 | .Config=>[(Ty.sl (Ty.st .qJ))]
 | .uv=>[(Ty.i .i64),(Ty.i .i64),(Ty.i .i64),(Ty.i .i64),(Ty.sl (Ty.i .i64)),(Ty.sl (Ty.st .ai)),(Ty.i .i64),(Ty.i .i64),Ty.str,(Ty.i .i64),Ty.str,(Ty.i .i64),Ty.str,(Ty.i .i64),(Ty.i .i64)]
 | .Seen=>[(Ty.i .i64),(Ty.sl (Ty.st .qJ)),(Ty.sl (Ty.st .uv))]
 | .Claim=>[(Ty.i .i64),(Ty.i .i64)]
 | .Message=>[(Ty.i .i64),(Ty.i .i64),(Ty.i .i64),(Ty.sl (Ty.i .i64)),(Ty.sl (Ty.st .ai)),(Ty.sl (Ty.st .Claim)),(Ty.sl (Ty.st .Claim))]
 | .lL=>[(Ty.i .i64),(Ty.i .i64),(Ty.i .i64),(Ty.i .i64),Ty.str,(Ty.i .i64),Ty.str,(Ty.i .i64),Ty.str,(Ty.i .i64),Ty.str]
 | .zi=>[(Ty.i .i64),(Ty.i .i64)]
 | .nU=>[(Ty.i .i64),Ty.str,(Ty.i .i64),Ty.str]
 | .sv=>[(Ty.i .i64),(Ty.i .i64)]
def mQ.toL:(n:mQ)->n.den->Cd n.leaves
 | .ai,(v:al)=>(v.aL,v.bb,v.aN,())
 | .cv,(v:az)=>(v.aq,v.aF,v.ai.aL,v.ai.bb,v.ai.aN,v.ba,v.aB,())
 | .aD,(v:ar)=>(v.aq,v.bl,v.Round,v.aF,v.ai.aL,v.ai.bb,v.ai.aN,v.lL,v.ba,v.aB,v.aG,v.aw,())
 | .aa,(v:af)=>(v.ae,v.Value,())
 | .aJ,(v:aj)=>(v.aq,v.bl,v.aF,v.ai.aL,v.ai.bb,v.ai.aN,v.bL,v.aa.ae,v.aa.Value,v.an.ae,v.an.Value,v.ax.ae,v.ax.Value,v.aS,v.bn,())
 | .ak,(v:ab)=>(v.aq,v.bl,v.aF,v.ai.aL,v.ai.bb,v.ai.aN,v.aH,v.aa.ae,v.aa.Value,v.an.ae,v.an.Value,v.ax.ae,v.ax.Value,v.au.ae,v.au.Value,v.aS,v.bn,v.aY,v.aw,())
 | .Timer,(v:dy)=>(v.ae,v.yx,())
 | .bl,(v:bJ)=>(v.aD.aq,v.aD.bl,v.aD.Round,v.aD.aF,v.aD.ai.aL,v.aD.ai.bb,v.aD.ai.aN,v.aD.lL,v.aD.ba,v.aD.aB,v.aD.aG,v.aD.aw,v.ak.aq,v.ak.bl,v.ak.aF,v.ak.ai.aL,v.ak.ai.bb,v.ak.ai.aN,v.ak.aH,v.ak.aa.ae,v.ak.aa.Value,v.ak.an.ae,v.ak.an.Value,v.ak.ax.ae,v.ak.ax.Value,v.ak.au.ae,v.ak.au.Value,v.ak.aS,v.ak.bn,v.ak.aY,v.ak.aw,v.Timer.ae,v.Timer.yx,v.Round,v.Next,v.wP,v.Value,())
 | .pD,(v:jF)=>(v.bL,v.bl,v.cv.aq,v.cv.aF,v.cv.ai.aL,v.cv.ai.bb,v.cv.ai.aN,v.cv.ba,v.cv.aB,v.aJ.aq,v.aJ.bl,v.aJ.aF,v.aJ.ai.aL,v.aJ.ai.bb,v.aJ.ai.aN,v.aJ.bL,v.aJ.aa.ae,v.aJ.aa.Value,v.aJ.an.ae,v.aJ.an.Value,v.aJ.ax.ae,v.aJ.ax.Value,v.aJ.aS,v.aJ.bn,())
 | .Src,(v:qH)=>(v.L,v.At,())
 | .vF,(v:aE)=>(v.ak.aq,v.ak.bl,v.ak.aF,v.ak.ai.aL,v.ak.ai.bb,v.ak.ai.aN,v.ak.aH,v.ak.aa.ae,v.ak.aa.Value,v.ak.an.ae,v.ak.an.Value,v.ak.ax.ae,v.ak.ax.Value,v.ak.au.ae,v.ak.au.Value,v.ak.aS,v.ak.bn,v.ak.aY,v.ak.aw,())
 | .qJ,(v:aR)=>(v.dG,v.ai.aL,v.ai.bb,v.ai.aN,())
 | .Config,(v:aU)=>(v.bj,())
 | .uv,(v:bC)=>(v.aJ.aq,v.aJ.bl,v.aJ.aF,v.aJ.ai.aL,v.aJ.ai.bb,v.aJ.ai.aN,v.aJ.bL,v.aJ.aa.ae,v.aJ.aa.Value,v.aJ.an.ae,v.aJ.an.Value,v.aJ.ax.ae,v.aJ.ax.Value,v.aJ.aS,v.aJ.bn,())
 | .Seen,(v:gk)=>(v.aq,v.View.bj,v.aw,())
 | .Claim,(v:gR)=>(v.rH,v.Value,())
 | .Message,(v:cu)=>(v.aq,v.aF,v.ai.aL,v.ai.bb,v.ai.aN,v.ba,v.aB,())
 | .lL,(v:Fo)=>(v.aT,v.low,v.bV,v.aQ.ae,v.aQ.Value,v.eG.ae,v.eG.Value,v.bW.ae,v.bW.Value,v.dL.ae,v.dL.Value,())
 | .zi,(v:eA)=>(v.Oo,v.Oq,())
 | .nU,(v:qb)=>(v.c0.ae,v.c0.Value,v.c1.ae,v.c1.Value,())
 | .sv,(v:wI)=>(v.c0,v.c1,())
def mQ.ZC:(n:mQ)->Cd n.leaves->n.den
 | .ai,v=>(al.mk v.1 v.2.1 v.2.2.1)
 | .cv,v=>(az.mk v.1 v.2.1 (al.mk v.2.2.1 v.2.2.2.1 v.2.2.2.2.1) v.2.2.2.2.2.1 v.2.2.2.2.2.2.1)
 | .aD,v=>(ar.mk v.1 v.2.1 v.2.2.1 v.2.2.2.1 (al.mk v.2.2.2.2.1 v.2.2.2.2.2.1 v.2.2.2.2.2.2.1) v.2.2.2.2.2.2.2.1 v.2.2.2.2.2.2.2.2.1 v.2.2.2.2.2.2.2.2.2.1 v.2.2.2.2.2.2.2.2.2.2.1 v.2.2.2.2.2.2.2.2.2.2.2.1)
 | .aa,v=>(af.mk v.1 v.2.1)
 | .aJ,v=>(aj.mk v.1 v.2.1 v.2.2.1 (al.mk v.2.2.2.1 v.2.2.2.2.1 v.2.2.2.2.2.1) v.2.2.2.2.2.2.1 (af.mk v.2.2.2.2.2.2.2.1 v.2.2.2.2.2.2.2.2.1) (af.mk v.2.2.2.2.2.2.2.2.2.1 v.2.2.2.2.2.2.2.2.2.2.1) (af.mk v.2.2.2.2.2.2.2.2.2.2.2.1 v.2.2.2.2.2.2.2.2.2.2.2.2.1) v.2.2.2.2.2.2.2.2.2.2.2.2.2.1 v.2.2.2.2.2.2.2.2.2.2.2.2.2.2.1)
 | .ak,v=>(ab.mk v.1 v.2.1 v.2.2.1 (al.mk v.2.2.2.1 v.2.2.2.2.1 v.2.2.2.2.2.1) v.2.2.2.2.2.2.1 (af.mk v.2.2.2.2.2.2.2.1 v.2.2.2.2.2.2.2.2.1) (af.mk v.2.2.2.2.2.2.2.2.2.1 v.2.2.2.2.2.2.2.2.2.2.1) (af.mk v.2.2.2.2.2.2.2.2.2.2.2.1 v.2.2.2.2.2.2.2.2.2.2.2.2.1) (af.mk v.2.2.2.2.2.2.2.2.2.2.2.2.2.1 v.2.2.2.2.2.2.2.2.2.2.2.2.2.2.1) v.2.2.2.2.2.2.2.2.2.2.2.2.2.2.2.1 v.2.2.2.2.2.2.2.2.2.2.2.2.2.2.2.2.1 v.2.2.2.2.2.2.2.2.2.2.2.2.2.2.2.2.2.1 v.2.2.2.2.2.2.2.2.2.2.2.2.2.2.2.2.2.2.1)
 | .Timer,v=>(dy.mk v.1 v.2.1)
 | .bl,v=>(bJ.mk (ar.mk v.1 v.2.1 v.2.2.1 v.2.2.2.1 (al.mk v.2.2.2.2.1 v.2.2.2.2.2.1 v.2.2.2.2.2.2.1) v.2.2.2.2.2.2.2.1 v.2.2.2.2.2.2.2.2.1 v.2.2.2.2.2.2.2.2.2.1 v.2.2.2.2.2.2.2.2.2.2.1 v.2.2.2.2.2.2.2.2.2.2.2.1) (ab.mk v.2.2.2.2.2.2.2.2.2.2.2.2.1 v.2.2.2.2.2.2.2.2.2.2.2.2.2.1 v.2.2.2.2.2.2.2.2.2.2.2.2.2.2.1 (al.mk v.2.2.2.2.2.2.2.2.2.2.2.2.2.2.2.1 v.2.2.2.2.2.2.2.2.2.2.2.2.2.2.2.2.1 v.2.2.2.2.2.2.2.2.2.2.2.2.2.2.2.2.2.1) v.2.2.2.2.2.2.2.2.2.2.2.2.2.2.2.2.2.2.1 (af.mk v.2.2.2.2.2.2.2.2.2.2.2.2.2.2.2.2.2.2.2.1 v.2.2.2.2.2.2.2.2.2.2.2.2.2.2.2.2.2.2.2.2.1) (af.mk v.2.2.2.2.2.2.2.2.2.2.2.2.2.2.2.2.2.2.2.2.2.1 v.2.2.2.2.2.2.2.2.2.2.2.2.2.2.2.2.2.2.2.2.2.2.1) (af.mk v.2.2.2.2.2.2.2.2.2.2.2.2.2.2.2.2.2.2.2.2.2.2.2.1 v.2.2.2.2.2.2.2.2.2.2.2.2.2.2.2.2.2.2.2.2.2.2.2.2.1) (af.mk v.2.2.2.2.2.2.2.2.2.2.2.2.2.2.2.2.2.2.2.2.2.2.2.2.2.1 v.2.2.2.2.2.2.2.2.2.2.2.2.2.2.2.2.2.2.2.2.2.2.2.2.2.2.1) v.2.2.2.2.2.2.2.2.2.2.2.2.2.2.2.2.2.2.2.2.2.2.2.2.2.2.2.1 v.2.2.2.2.2.2.2.2.2.2.2.2.2.2.2.2.2.2.2.2.2.2.2.2.2.2.2.2.1 v.2.2.2.2.2.2.2.2.2.2.2.2.2.2.2.2.2.2.2.2.2.2.2.2.2.2.2.2.2.1 v.2.2.2.2.2.2.2.2.2.2.2.2.2.2.2.2.2.2.2.2.2.2.2.2.2.2.2.2.2.2.1) (dy.mk v.2.2.2.2.2.2.2.2.2.2.2.2.2.2.2.2.2.2.2.2.2.2.2.2.2.2.2.2.2.2.2.1 v.2.2.2.2.2.2.2.2.2.2.2.2.2.2.2.2.2.2.2.2.2.2.2.2.2.2.2.2.2.2.2.2.1) v.2.2.2.2.2.2.2.2.2.2.2.2.2.2.2.2.2.2.2.2.2.2.2.2.2.2.2.2.2.2.2.2.2.1 v.2.2.2.2.2.2.2.2.2.2.2.2.2.2.2.2.2.2.2.2.2.2.2.2.2.2.2.2.2.2.2.2.2.2.1 v.2.2.2.2.2.2.2.2.2.2.2.2.2.2.2.2.2.2.2.2.2.2.2.2.2.2.2.2.2.2.2.2.2.2.2.1 v.2.2.2.2.2.2.2.2.2.2.2.2.2.2.2.2.2.2.2.2.2.2.2.2.2.2.2.2.2.2.2.2.2.2.2.2.1)
 | .pD,v=>(jF.mk v.1 v.2.1 (az.mk v.2.2.1 v.2.2.2.1 (al.mk v.2.2.2.2.1 v.2.2.2.2.2.1 v.2.2.2.2.2.2.1) v.2.2.2.2.2.2.2.1 v.2.2.2.2.2.2.2.2.1) (aj.mk v.2.2.2.2.2.2.2.2.2.1 v.2.2.2.2.2.2.2.2.2.2.1 v.2.2.2.2.2.2.2.2.2.2.2.1 (al.mk v.2.2.2.2.2.2.2.2.2.2.2.2.1 v.2.2.2.2.2.2.2.2.2.2.2.2.2.1 v.2.2.2.2.2.2.2.2.2.2.2.2.2.2.1) v.2.2.2.2.2.2.2.2.2.2.2.2.2.2.2.1 (af.mk v.2.2.2.2.2.2.2.2.2.2.2.2.2.2.2.2.1 v.2.2.2.2.2.2.2.2.2.2.2.2.2.2.2.2.2.1) (af.mk v.2.2.2.2.2.2.2.2.2.2.2.2.2.2.2.2.2.2.1 v.2.2.2.2.2.2.2.2.2.2.2.2.2.2.2.2.2.2.2.1) (af.mk v.2.2.2.2.2.2.2.2.2.2.2.2.2.2.2.2.2.2.2.2.1 v.2.2.2.2.2.2.2.2.2.2.2.2.2.2.2.2.2.2.2.2.2.1) v.2.2.2.2.2.2.2.2.2.2.2.2.2.2.2.2.2.2.2.2.2.2.1 v.2.2.2.2.2.2.2.2.2.2.2.2.2.2.2.2.2.2.2.2.2.2.2.1))
 | .Src,v=>(qH.mk v.1 v.2.1)
 | .vF,v=>(aE.mk (ab.mk v.1 v.2.1 v.2.2.1 (al.mk v.2.2.2.1 v.2.2.2.2.1 v.2.2.2.2.2.1) v.2.2.2.2.2.2.1 (af.mk v.2.2.2.2.2.2.2.1 v.2.2.2.2.2.2.2.2.1) (af.mk v.2.2.2.2.2.2.2.2.2.1 v.2.2.2.2.2.2.2.2.2.2.1) (af.mk v.2.2.2.2.2.2.2.2.2.2.2.1 v.2.2.2.2.2.2.2.2.2.2.2.2.1) (af.mk v.2.2.2.2.2.2.2.2.2.2.2.2.2.1 v.2.2.2.2.2.2.2.2.2.2.2.2.2.2.1) v.2.2.2.2.2.2.2.2.2.2.2.2.2.2.2.1 v.2.2.2.2.2.2.2.2.2.2.2.2.2.2.2.2.1 v.2.2.2.2.2.2.2.2.2.2.2.2.2.2.2.2.2.1 v.2.2.2.2.2.2.2.2.2.2.2.2.2.2.2.2.2.2.1))
 | .qJ,v=>(aR.mk v.1 (al.mk v.2.1 v.2.2.1 v.2.2.2.1))
 | .Config,v=>(aU.mk v.1)
 | .uv,v=>(bC.mk (aj.mk v.1 v.2.1 v.2.2.1 (al.mk v.2.2.2.1 v.2.2.2.2.1 v.2.2.2.2.2.1) v.2.2.2.2.2.2.1 (af.mk v.2.2.2.2.2.2.2.1 v.2.2.2.2.2.2.2.2.1) (af.mk v.2.2.2.2.2.2.2.2.2.1 v.2.2.2.2.2.2.2.2.2.2.1) (af.mk v.2.2.2.2.2.2.2.2.2.2.2.1 v.2.2.2.2.2.2.2.2.2.2.2.2.1) v.2.2.2.2.2.2.2.2.2.2.2.2.2.1 v.2.2.2.2.2.2.2.2.2.2.2.2.2.2.1))
 | .Seen,v=>(gk.mk v.1 (aU.mk v.2.1) v.2.2.1)
 | .Claim,v=>(gR.mk v.1 v.2.1)
 | .Message,v=>(cu.mk v.1 v.2.1 (al.mk v.2.2.1 v.2.2.2.1 v.2.2.2.2.1) v.2.2.2.2.2.1 v.2.2.2.2.2.2.1)
 | .lL,v=>(Fo.mk v.1 v.2.1 v.2.2.1 (af.mk v.2.2.2.1 v.2.2.2.2.1) (af.mk v.2.2.2.2.2.1 v.2.2.2.2.2.2.1) (af.mk v.2.2.2.2.2.2.2.1 v.2.2.2.2.2.2.2.2.1) (af.mk v.2.2.2.2.2.2.2.2.2.1 v.2.2.2.2.2.2.2.2.2.2.1))
 | .zi,v=>(eA.mk v.1 v.2.1)
 | .nU,v=>(qb.mk (af.mk v.1 v.2.1) (af.mk v.2.2.1 v.2.2.2.1))
 | .sv,v=>(wI.mk v.1 v.2.1)
mutual
def iv:al->List PV
 |⟨a0,a1,a2⟩=>[.int .i64 a0,.sl (a1.map (fun x=>[.int .i64 x])),.sl (xq a2)]
def xq:List al->List (List PV)
 |[]=>[]
 |x::l=>iv x::xq l
end
theorem DC:∀(l:List al),xq l=l.map iv
 |[]=>by rw[xq];rfl
 |x::l=>by rw[xq,DC l];rfl
def yG(v:az):List PV:=[.int .i64 v.aq,.int .i64 v.aF,.int .i64 v.ai.aL,.sl (v.ai.bb.map (fun x=>[.int .i64 x])),.sl (v.ai.aN.map iv),.sl (v.ba.map (fun x=>[.str x])),.sl (v.aB.map (fun x=>[.str x]))]
def Ow(v:ar):List PV:=[.int .i64 v.aq,.int .i64 v.bl,.int .i64 v.Round,.int .i64 v.aF,.int .i64 v.ai.aL,.sl (v.ai.bb.map (fun x=>[.int .i64 x])),.sl (v.ai.aN.map iv),.str v.lL,.sl (v.ba.map (fun x=>[.str x])),.sl (v.aB.map (fun x=>[.str x])),.sl (v.aG.map (fun x=>[.str x])),.sl (v.aw.map yG)]
def UG(v:af):List PV:=[.int .i64 v.ae,.str v.Value]
def xr(v:aj):List PV:=[.int .i64 v.aq,.int .i64 v.bl,.int .i64 v.aF,.int .i64 v.ai.aL,.sl (v.ai.bb.map (fun x=>[.int .i64 x])),.sl (v.ai.aN.map iv),.int .i64 v.bL,.int .i64 v.aa.ae,.str v.aa.Value,.int .i64 v.an.ae,.str v.an.Value,.int .i64 v.ax.ae,.str v.ax.Value,.int .i64 v.aS,.int .i64 v.bn]
def SD(v:ab):List PV:=[.int .i64 v.aq,.int .i64 v.bl,.int .i64 v.aF,.int .i64 v.ai.aL,.sl (v.ai.bb.map (fun x=>[.int .i64 x])),.sl (v.ai.aN.map iv),.int .i64 v.aH,.int .i64 v.aa.ae,.str v.aa.Value,.int .i64 v.an.ae,.str v.an.Value,.int .i64 v.ax.ae,.str v.ax.Value,.int .i64 v.au.ae,.str v.au.Value,.int .i64 v.aS,.int .i64 v.bn,.str v.aY,.sl (v.aw.map xr)]
def We(v:dy):List PV:=[.int .i64 v.ae,.int .i64 v.yx]
def Ye(v:bJ):List PV:=[.int .i64 v.aD.aq,.int .i64 v.aD.bl,.int .i64 v.aD.Round,.int .i64 v.aD.aF,.int .i64 v.aD.ai.aL,.sl (v.aD.ai.bb.map (fun x=>[.int .i64 x])),.sl (v.aD.ai.aN.map iv),.str v.aD.lL,.sl (v.aD.ba.map (fun x=>[.str x])),.sl (v.aD.aB.map (fun x=>[.str x])),.sl (v.aD.aG.map (fun x=>[.str x])),.sl (v.aD.aw.map yG),.int .i64 v.ak.aq,.int .i64 v.ak.bl,.int .i64 v.ak.aF,.int .i64 v.ak.ai.aL,.sl (v.ak.ai.bb.map (fun x=>[.int .i64 x])),.sl (v.ak.ai.aN.map iv),.int .i64 v.ak.aH,.int .i64 v.ak.aa.ae,.str v.ak.aa.Value,.int .i64 v.ak.an.ae,.str v.ak.an.Value,.int .i64 v.ak.ax.ae,.str v.ak.ax.Value,.int .i64 v.ak.au.ae,.str v.ak.au.Value,.int .i64 v.ak.aS,.int .i64 v.ak.bn,.str v.ak.aY,.sl (v.ak.aw.map xr),.int .i64 v.Timer.ae,.int .i64 v.Timer.yx,.int .i64 v.Round,.int .i64 v.Next,.bool v.wP,.str v.Value]
def UD(v:jF):List PV:=[.int .i64 v.bL,.int .i64 v.bl,.int .i64 v.cv.aq,.int .i64 v.cv.aF,.int .i64 v.cv.ai.aL,.sl (v.cv.ai.bb.map (fun x=>[.int .i64 x])),.sl (v.cv.ai.aN.map iv),.sl (v.cv.ba.map (fun x=>[.str x])),.sl (v.cv.aB.map (fun x=>[.str x])),.int .i64 v.aJ.aq,.int .i64 v.aJ.bl,.int .i64 v.aJ.aF,.int .i64 v.aJ.ai.aL,.sl (v.aJ.ai.bb.map (fun x=>[.int .i64 x])),.sl (v.aJ.ai.aN.map iv),.int .i64 v.aJ.bL,.int .i64 v.aJ.aa.ae,.str v.aJ.aa.Value,.int .i64 v.aJ.an.ae,.str v.aJ.an.Value,.int .i64 v.aJ.ax.ae,.str v.aJ.ax.Value,.int .i64 v.aJ.aS,.int .i64 v.aJ.bn]
def aaq(v:qH):List PV:=[.sl (v.L.map (fun x=>[.int .i64 x])),.int .i64 v.At]
def UE(v:aE):List PV:=[.int .i64 v.ak.aq,.int .i64 v.ak.bl,.int .i64 v.ak.aF,.int .i64 v.ak.ai.aL,.sl (v.ak.ai.bb.map (fun x=>[.int .i64 x])),.sl (v.ak.ai.aN.map iv),.int .i64 v.ak.aH,.int .i64 v.ak.aa.ae,.str v.ak.aa.Value,.int .i64 v.ak.an.ae,.str v.ak.an.Value,.int .i64 v.ak.ax.ae,.str v.ak.ax.Value,.int .i64 v.ak.au.ae,.str v.ak.au.Value,.int .i64 v.ak.aS,.int .i64 v.ak.bn,.str v.ak.aY,.sl (v.ak.aw.map xr)]
def EA(v:aR):List PV:=[.bool v.dG,.int .i64 v.ai.aL,.sl (v.ai.bb.map (fun x=>[.int .i64 x])),.sl (v.ai.aN.map iv)]
def UF(v:aU):List PV:=[.sl (v.bj.map EA)]
def Nu(v:bC):List PV:=[.int .i64 v.aJ.aq,.int .i64 v.aJ.bl,.int .i64 v.aJ.aF,.int .i64 v.aJ.ai.aL,.sl (v.aJ.ai.bb.map (fun x=>[.int .i64 x])),.sl (v.aJ.ai.aN.map iv),.int .i64 v.aJ.bL,.int .i64 v.aJ.aa.ae,.str v.aJ.aa.Value,.int .i64 v.aJ.an.ae,.str v.aJ.an.Value,.int .i64 v.aJ.ax.ae,.str v.aJ.ax.Value,.int .i64 v.aJ.aS,.int .i64 v.aJ.bn]
def Yf(v:gk):List PV:=[.int .i64 v.aq,.sl (v.View.bj.map EA),.sl (v.aw.map Nu)]
def Gf(v:gR):List PV:=[.int .i64 v.rH,.int .i64 v.Value]
def Sz(v:cu):List PV:=[.int .i64 v.aq,.int .i64 v.aF,.int .i64 v.ai.aL,.sl (v.ai.bb.map (fun x=>[.int .i64 x])),.sl (v.ai.aN.map iv),.sl (v.ba.map Gf),.sl (v.aB.map Gf)]
def aar(v:Fo):List PV:=[.int .i64 v.aT,.int .i64 v.low,.int .i64 v.bV,.int .i64 v.aQ.ae,.str v.aQ.Value,.int .i64 v.eG.ae,.str v.eG.Value,.int .i64 v.bW.ae,.str v.bW.Value,.int .i64 v.dL.ae,.str v.dL.Value]
def Yg(v:eA):List PV:=[.int .i64 v.Oo,.int .i64 v.Oq]
def Mr(v:qb):List PV:=[.int .i64 v.c0.ae,.str v.c0.Value,.int .i64 v.c1.ae,.str v.c1.Value]
def SE(v:wI):List PV:=[.int .i64 v.c0,.int .i64 v.c1]
def mQ.pv:(n:mQ)->n.den->List PV
 | .ai,v=>iv v
 | .cv,v=>yG v
 | .aD,v=>Ow v
 | .aa,v=>UG v
 | .aJ,v=>xr v
 | .ak,v=>SD v
 | .Timer,v=>We v
 | .bl,v=>Ye v
 | .pD,v=>UD v
 | .Src,v=>aaq v
 | .vF,v=>UE v
 | .qJ,v=>EA v
 | .Config,v=>UF v
 | .uv,v=>Nu v
 | .Seen,v=>Yf v
 | .Claim,v=>Gf v
 | .Message,v=>Sz v
 | .lL,v=>aar v
 | .zi,v=>Yg v
 | .nU,v=>Mr v
 | .sv,v=>SE v
def Ty.isAgg:Ty->Bool
 | .st _=>true
 |_=>false
def Zn(t:Ty)(cs:List PV):PV:=match t.isAgg with|true=> .agg cs|false=>cs.headD .any
def Ty.pv:(t:Ty)->t.den->List PV
 | .i k,n=>[.int k n]
 | .bool,b=>[.bool b]
 | .str,s=>[.str s]
 | .sl t,(xs:List t.den)=>[.sl (xs.map (Ty.pv t))]
 | .mp a b,(xs:List (a.den×b.den))=>[.iK (xs.map fun p=>Zn a (Ty.pv a p.1)) (xs.map fun p=>Zn b (Ty.pv b p.2))]
 | .st n,v=>n.pv v
def xA:(ls:List Ty)->Cd ls->List PV
 |[],_=>[]
 |t::l,v=>t.pv v.1++xA l v.2
theorem mQ.Ky:∀(n:mQ) (v:n.den),n.pv v=xA n.leaves (n.toL v)
 | .ai,v=>by cases v;simp only[mQ.pv,iv,DC];rfl
 | .cv,v=>rfl
 | .aD,v=>rfl
 | .aa,v=>rfl
 | .aJ,v=>rfl
 | .ak,v=>rfl
 | .Timer,v=>rfl
 | .bl,v=>rfl
 | .pD,v=>rfl
 | .Src,v=>rfl
 | .vF,v=>rfl
 | .qJ,v=>rfl
 | .Config,v=>rfl
 | .uv,v=>rfl
 | .Seen,v=>rfl
 | .Claim,v=>rfl
 | .Message,v=>rfl
 | .lL,v=>rfl
 | .zi,v=>rfl
 | .nU,v=>rfl
 | .sv,v=>rfl
def Ty.leaf:Ty->Bool
 | .st _=>false
 |_=>true
theorem mQ.HF:∀(n:mQ),n.leaves.all Ty.leaf=true
 | .ai=>rfl
 | .cv=>rfl
 | .aD=>rfl
 | .aa=>rfl
 | .aJ=>rfl
 | .ak=>rfl
 | .Timer=>rfl
 | .bl=>rfl
 | .pD=>rfl
 | .Src=>rfl
 | .vF=>rfl
 | .qJ=>rfl
 | .Config=>rfl
 | .uv=>rfl
 | .Seen=>rfl
 | .Claim=>rfl
 | .Message=>rfl
 | .lL=>rfl
 | .zi=>rfl
 | .nU=>rfl
 | .sv=>rfl
theorem mQ.adL:∀(n:mQ) (v:Cd n.leaves),n.toL (n.ZC v)=v
 | .ai,v=>rfl
 | .cv,v=>rfl
 | .aD,v=>rfl
 | .aa,v=>rfl
 | .aJ,v=>rfl
 | .ak,v=>rfl
 | .Timer,v=>rfl
 | .bl,v=>rfl
 | .pD,v=>rfl
 | .Src,v=>rfl
 | .vF,v=>rfl
 | .qJ,v=>rfl
 | .Config,v=>rfl
 | .uv,v=>rfl
 | .Seen,v=>rfl
 | .Claim,v=>rfl
 | .Message,v=>rfl
 | .lL,v=>rfl
 | .zi,v=>rfl
 | .nU,v=>rfl
 | .sv,v=>rfl
def Ty.UT:Ty->Bool
 | .sl _=>false
 | .mp _ _=>false
 |_=>true
@[reducible] def U:TU where
 Ty:=Ty
 TP:=Ty.TP
 den:=Ty.den
 pv:=Ty.pv
 size:=fun t=>match t with| .st n=>n.leaves.length|_=>1
 agg:=Ty.isAgg
 plain:=fun t=>match t with| .st n=>n.leaves.all Ty.UT|t=>t.UT
def EP:(t:Ty)->t.den->KV U
 | .i k,n=> .int k n
 | .bool,b=> .bool b
 | .str,s=> .str s
 | .sl t,(xs:List t.den)=> .sl t xs
 | .mp a b,(xs:List (a.den×b.den))=> .iK a b xs
 | .st _,_=> .any
def HE:(ls:List Ty)->Cd ls->List (KV U)
 |[],_=>[]
 |t::l,v=>EP t v.1::HE l v.2
def ac8:(t:Ty)->t.den->List (KV U)
 | .st n,v=>HE n.leaves (n.toL v)
 | .i k,v=>[EP (.i k) v]
 | .bool,v=>[EP .bool v]
 | .str,v=>[EP .str v]
 | .sl t,v=>[EP (.sl t) v]
 | .mp a b,v=>[EP (.mp a b) v]
def yV(lk:Lk U):(t:Ty)->KV U->Option t.den
 | .i k,x=>YQ k x
 | .bool,x=>GY x
 | .str,x=>YO x
 | .sl t,x=>RD (U:=U) lk t x
 | .mp a b,x=>YP (U:=U) a b x
 | .st _,_=>none
def z6(lk:Lk U):(ls:List Ty)->List (KV U)->Option (Cd ls)
 |[],cs=>match cs with|[]=>some ()|_=>none
 |t::l,cs=>match cs with
  |c::cs=>(match yV lk t c with
   |some v=>(match z6 lk l cs with|some vs=>some (v,vs)|none=>none)
   |none=>none)
  |[]=>none
def JO{α:Type}(f:KV U->Option α):List (KV U)->Option α
 |[x]=>f x
 |_=>none
def afj:(t:Ty)->Lk U->List (KV U)->Option t.den
 | .st n,lk,cs=>(match z6 lk n.leaves cs with|some v=>some (n.ZC v)|none=>none)
 | .i k,lk,cs=>JO (yV lk (.i k)) cs
 | .bool,lk,cs=>JO (yV lk .bool) cs
 | .str,lk,cs=>JO (yV lk .str) cs
 | .sl t,lk,cs=>JO (yV lk (.sl t)) cs
 | .mp a b,lk,cs=>JO (yV lk (.mp a b)) cs
theorem YA:∀(t:Ty) (v:t.den),t.leaf=true->[(EP t v).pv]=t.pv v
 | .i k,v,_=>rfl
 | .bool,v,_=>rfl
 | .str,v,_=>rfl
 | .sl t,v,_=>rfl
 | .mp a b,v,_=>rfl
 | .st _,_,h=>by cases h
theorem K3:∀(ls:List Ty) (v:Cd ls),ls.all Ty.leaf=true->(HE ls v).map KV.pv=xA ls v
 |[],_,_=>rfl
 |t::l,v,h=>by
  rw[Qq70,Qm]at h;rw[HE,xA,QD,K3 l v.2 h.2,<-YA t v.1 h.1];rfl
theorem um{lk:Lk U}:∀{t:Ty} {x:KV U} {v:t.den},yV lk t x=some v->iu lk [x] (t.pv v)
 | .i k,x,v,h=> .cons (abt h) .nil
 | .bool,x,v,h=> .cons (abv h) .nil
 | .str,x,v,h=> .cons (abp h) .nil
 | .sl t,x,v,h=> .cons (abr (U:=U) h) .nil
 | .mp a b,x,v,h=> .cons (abq (U:=U) h) .nil
 | .st _,_,_,h=>by cases h
theorem iu.cQ{lk:Lk U}{x:KV U}{ys:List PV}{xs:List (KV U)}{zs:List PV}(h:iu lk [x] ys)(k:iu lk xs zs):iu lk (x::xs) (ys++zs):=by
 cases h with
 |cons h1 h2=>cases h2 with|nil=>exact .cons h1 k
theorem GX{lk:Lk U}:∀{ls:List Ty} {cs:List (KV U)} {v:Cd ls},z6 lk ls cs=some v->iu lk cs (xA ls v)
 |[],[],_,_=> .nil
 |[],_::_,_,h=>by cases h
 |_::_,[],_,h=>by cases h
 |t::l,c::cs,v,h=>by
  rw[z6]at h;split at h
  ·rename_i v1 h1;split at h
   ·rename_i vs h2;injection h with h
    subst h;exact(um h1).cQ (GX h2)
   ·cases h
  ·cases h
theorem DY{α:Type}{f:KV U->Option α}{cs:List (KV U)}{v:α}(h:JO f cs=some v):∃x,cs=[x]/\f x=some v:=by
 unfold JO at h;split at h
 ·exact⟨_,rfl,h⟩
 ·cases h
theorem Wd:∀(ls:List Ty) (v:Cd ls),ls.all Ty.leaf=true->(xA ls v).length=ls.length
 |[],_,_=>rfl
 |t::l,v,h=>by
  rw[Qq70,Qm]at h
  have:(t.pv v.1).length=1:=by
   cases t with
   |st n=>cases h.1
   |_=>rfl
  rw[xA,QB,Wd l v.2 h.2,this,QE,Nat.add_comm]
theorem pf:∀(t:Ty) (v:t.den),t.leaf=true->∀y∈t.pv v,y.gN=true/\(t.UT=true->y.plain=true)
 | .i k,v,_,y,h=>by simp only[Ty.pv,Q5]at h;subst h;exact⟨rfl,fun _=>rfl⟩
 | .bool,v,_,y,h=>by simp only[Ty.pv,Q5]at h;subst h;exact⟨rfl,fun _=>rfl⟩
 | .str,v,_,y,h=>by simp only[Ty.pv,Q5]at h;subst h;exact⟨rfl,fun _=>rfl⟩
 | .sl t,v,_,y,h=>by simp only[Ty.pv,Q5]at h;subst h;exact⟨rfl,fun h=>by cases h⟩
 | .mp a b,v,_,y,h=>by simp only[Ty.pv,Q5]at h;subst h;exact⟨rfl,fun h=>by cases h⟩
 | .st _,_,h,_,_=>by cases h
theorem C3:∀(ls:List Ty) (v:Cd ls),ls.all Ty.leaf=true->∀y∈xA ls v,y.gN=true/\(ls.all Ty.UT=true->y.plain=true)
 |[],_,_,y,h=>by cases h
 |t::l,v,h,y,hy=>by
  rw[Qq70,Qm]at h;rw[xA,Qz]at hy;rcases hy with hy|hy
  ·obtain⟨h1,h2⟩:=pf t v.1 h.1 y hy;exact⟨h1,fun hp=>by rw[Qq70,Qm]at hp;exact h2 hp.1⟩
  ·obtain⟨h1,h2⟩:=C3 l v.2 h.2 y hy;exact⟨h1,fun hp=>by rw[Qq70,Qm]at hp;exact h2 hp.2⟩
def MA:mQ->Option (IntKind×IntKind)
 | .Timer=>some (.i64,.i64)
 | .Claim=>some (.i64,.i64)
 | .zi=>some (.i64,.i64)
 | .sv=>some (.i64,.i64)
 |_=>none
theorem HG:∀(n:mQ) (k l:IntKind),MA n=some (k,l)->∀v,∃a b,ac8 (.st n) v=[.int k a,.int l b]
 | .Timer,_,_,h=>by injection h with h;injection h with h1 h2;subst h1 h2;exact fun v=>⟨_,_,rfl⟩
 | .Claim,_,_,h=>by injection h with h;injection h with h1 h2;subst h1 h2;exact fun v=>⟨_,_,rfl⟩
 | .zi,_,_,h=>by injection h with h;injection h with h1 h2;subst h1 h2;exact fun v=>⟨_,_,rfl⟩
 | .sv,_,_,h=>by injection h with h;injection h with h1 h2;subst h1 h2;exact fun v=>⟨_,_,rfl⟩
 | .ai,_,_,h=>by cases h
 | .cv,_,_,h=>by cases h
 | .aD,_,_,h=>by cases h
 | .aa,_,_,h=>by cases h
 | .aJ,_,_,h=>by cases h
 | .ak,_,_,h=>by cases h
 | .bl,_,_,h=>by cases h
 | .pD,_,_,h=>by cases h
 | .Src,_,_,h=>by cases h
 | .vF,_,_,h=>by cases h
 | .qJ,_,_,h=>by cases h
 | .Config,_,_,h=>by cases h
 | .uv,_,_,h=>by cases h
 | .Seen,_,_,h=>by cases h
 | .Message,_,_,h=>by cases h
 | .lL,_,_,h=>by cases h
 | .nU,_,_,h=>by cases h
def adK:List (Nat×Ty):=[(3,(Ty.i .i64)),(4,Ty.bool),(9,Ty.str),(27,(Ty.st .ai)),(33,(Ty.st .aa)),(57,(Ty.st .cv)),(64,(Ty.st .aJ)),(66,(Ty.st .pD)),(175,(Ty.st .uv)),(191,(Ty.st .Message)),(214,(Ty.st .qJ)),(258,(Ty.st .Claim))]
def VY(n:Nat):List (Nat×Ty)->Option Ty
 |[]=>none
 |(k,t)::l=>(match Nat.beq k n with|true=>some t|false=>VY n l)
@[reducible] def K:TK U where
 dS:=ac8
 dec:=afj
 O7:=fun n=>VY n adK
 qE:=fun t v=>by
  cases t with
  |st n=>exact(K3 _ _ n.HF).trans (n.Ky v).symm
  |_=>rfl
 mu:=fun t lk cs v h=>by
  cases t with
  |st n=>
   change (match z6 lk n.leaves cs with|some v=>some (n.ZC v)|none=>none)=some v at h
   split at h
   ·rename_i u hu;injection h with h
    subst h;have:=GX hu
    change iu lk cs (n.pv (n.ZC u))
    rw[n.Ky,n.adL];exact this
   ·cases h
  |i k=>obtain⟨x,rfl,hx⟩:=DY h;exact um hx
  |bool=>obtain⟨x,rfl,hx⟩:=DY h;exact um hx
  |str=>obtain⟨x,rfl,hx⟩:=DY h;exact um hx
  |sl t=>obtain⟨x,rfl,hx⟩:=DY h;exact um hx
  |mp a b=>obtain⟨x,rfl,hx⟩:=DY h;exact um hx
 len:=fun t v=>by
  cases t with
  |st n=>exact(congrArg List.length (n.Ky v)).trans (Wd _ _ n.HF)
  |_=>rfl
 gN:=fun t v y hy=>by
  cases t with
  |st n=>exact(C3 _ (n.toL v) n.HF y (Eq.mp (congrArg (y∈·) (n.Ky v)) hy)).1
  |i k=>exact(pf (.i k) v rfl y hy).1
  |bool=>exact(pf .bool v rfl y hy).1
  |str=>exact(pf .str v rfl y hy).1
  |sl t=>exact(pf (.sl t) v rfl y hy).1
  |mp a b=>exact(pf (.mp a b) v rfl y hy).1
 one:=fun t h=>by
  cases t with
  |st n=>cases h
  |_=>rfl
 plain:=fun t h v y hy=>by
  cases t with
  |st n=>exact(C3 _ (n.toL v) n.HF y (Eq.mp (congrArg (y∈·) (n.Ky v)) hy)).2 h
  |i k=>exact(pf (.i k) v rfl y hy).2 rfl
  |bool=>exact(pf .bool v rfl y hy).2 rfl
  |str=>exact(pf .str v rfl y hy).2 rfl
  |sl t=>cases h
  |mp a b=>cases h
 MA:=fun t=>match t with| .st n=>MA n|_=>none
 HG:=fun t k l h=>by
  cases t with
  |st n=>exact⟨rfl,HG n k l h⟩
  |_=>cases h
end
section
open Go.RowKit
theorem vH{P:Program}(w:World)(dT sT ty elem:TypeId)(g o dLen dCap:Nat)(a:Addr)(sLen sCap:Nat)(cur:Array Value)(t:TypeId)(cs:List Value)(size n:Nat)
  (hu:P.underlying dT=some (.slice elem)) (hs:(P.info? elem).map (·.size)=some size)
  (hg:w.heap[g]?=some (.cells cur t (0,0))) (hn:n=Nat.min sLen dLen) (hcl:cs.length=n*size)
  (hsrc:∀(j:Nat) (v:Value),cs[j]?=some v->w.cell? (a.add j)=some v) (hfit:o+cs.length<=cur.size) (h1:∀v∈cs,v.oneCell'=true):
  (Builtin.copy_ #[dT,sT] ty #[.slice (some ⟨g,o,none⟩) dLen dCap,.slice (some a) sLen sCap]).run P w=
   .ok (goInt n) (w.setRow g (cur.toList.take o++cs++cur.toList.drop (o+cs.length)).toArray):=by
 have hl:=run_loadCells_list (P:=P) w a cs hsrc;have hst:=run_storeCells_at P g o t cs 0 cur w hg (by simpa using hfit) h1
 rw[hcl]at hl
 cases hq:P.info? elem with
 |none=>simp[hq]at hs
 |some i=>
  have hi:i.size=size:=by simpa[hq]using hs
  simp[Builtin.copy_,run_underlying hu,Builtin.lenOf,Builtin.firstCells,sizeOf,typeInfo,hq,hi,<-hn,hl,hst]
theorem SV{w:World}{a:Addr}{v:Value}(h:w.cell? a=some v):∃t n,w.shape? a.block=some (t,n+1):=by
 unfold World.cell? at h;unfold World.shape?;split at h
 ·rename_i c t fr hc;split at h
  ·cases h
  ·have hlt:=(Q9.1 h).1;exact⟨t,c.size - 1,by simp only[Qf,Prod.mk.injEq,true_and];omega⟩
 ·cases h
theorem I9{P:Program}(w:World)(tS tR e:TypeId)(ht:P.underlying tS=some (.slice e))(size:Nat)(hz:∀w,(Go.sizeOf e).run P w= .ok size w)
  (a b:Addr) (la ca lb cb:Nat) (hne:a.block≠b.block) {v:Value} (ha:w.cell? a=some v) {cur:Array Value} {t:TypeId} (hb:w.heap[b.block]?=some (.cells cur t (0,0))) (h0:cur.size≠0):
  (Extern.SlicesOverlaps.overlaps #[tS,tS] #[tR] #[.slice (some a) la ca,.slice (some b) lb cb]).run P w= .ok (.bool false) w:=by
 obtain⟨tA,kA,hsa⟩:=SV ha;have hsb:w.shape? b.block=some (t,cur.size):=by simp[World.shape?,hb]
 have hfb:w.frozen? b=false:=by simp[World.frozen?,hb]
 have hfe:w.frozen? {block:=b.block,off:=cur.size}=false:=by simp[World.frozen?,hb]
 have hnb:(a.block !=b.block)=true:=by simpa using hne
 have hnb':(a.block==b.block)=false:=by simpa using hne
 obtain⟨kB,hkB⟩:∃kB,cur.size=kB+1:=⟨cur.size - 1,by omega⟩
 rw[hkB]at hsb hfe
 change Sem.run P (α:=Value) (do
  let some t:=(#[tS,tS]:Array TypeId)[0]?|stuck "slices.overlaps: no parameter types"
  let .slice elem <-underlying t|stuck "slices.overlaps: slice type expected"
  let size <-sizeOf elem
  match(some a:Option Addr),(some b:Option Addr)with
  |some a,some b=>
   if la=0\/lb=0\/size=0 then pure (Value.bool false)
   else if a.block !=b.block&&(<-frozen a)&&(<-frozen b)then unsupported .addressObserved
   else do
    if a.block !=b.block then do
     noView a;noView b
     if<-mayBeOne a b then return Value.bool ((<-choose (.extern "sameAddr.stringBytes" 2))==1)
    pure (Value.bool (a.block==b.block&&a.off<b.off+lb*size&&b.off<a.off+la*size))
  |_,_=>pure (Value.bool false)) w=_
 by_cases h0:la=0\/lb=0\/size=0
 ·simp[run_underlying ht,hz,h0]
 ·cases hfa:w.frozen? a<;>cases hfk:w.frozen? {block:=a.block,off:=kA+1}<;>
   simp[run_underlying ht,hz,h0,hnb,hnb',frozen,noView,viewAt,mayBeOne,stringish,shape,Sem.run,hsa,hsb,hfa,hfk,hfb,hfe]
theorem XC(a:Addr):a.add 0=a:=by
 cases a with
 |mk b o s=>unfold Addr.add;split<;>simp_all
theorem Fm(a:Addr)(n:Nat):(a.add n).block=a.block:=by unfold Addr.add;split<;>rfl
def qw{α:Type}(l:List α)(o:Nat)(c:List α):List α:=l.take o++c++l.drop (o+c.length)
theorem EC{α:Type}{l:List α}{o:Nat}{c:List α}(h:o+c.length<=l.length):(qw l o c).length=l.length:=by simp[qw];omega
theorem UI{α:Type}{l us ys:List α}{a:Nat}(h:a+us.length+ys.length<=l.length):qw (qw l a us) (a+us.length) ys=l.take a++us++ys++l.drop (a+us.length+ys.length):=by
 have h1:(l.take a++us).length=a+us.length:=by simp;omega
 have h2:(qw l a us).take (a+us.length)=l.take a++us:=by
  rw[qw,List.take_append_of_le_length (by omega),List.take_of_length_le (by omega)]
 have h3:(qw l a us).drop (a+us.length+ys.length)=l.drop (a+us.length+ys.length):=by
  rw[qw,<-List.drop_drop,<-h1,List.drop_left,List.drop_drop,h1]
 rw[qw,h2,h3]
theorem SF{α:Type}{l us ys:List α}{a:Nat}(h:a+us.length+ys.length<=l.length):qw (qw l (a+us.length) ys) a us=l.take a++us++ys++l.drop (a+us.length+ys.length):=by
 have h1:(l.take (a+us.length)).length=a+us.length:=by simp;omega
 have h2:(qw l (a+us.length) ys).take a=l.take a:=by
  rw[qw,QL,List.take_append_of_le_length (by omega),List.take_take,Nat.min_eq_left (by omega)]
 have h3:(qw l (a+us.length) ys).drop (a+us.length)=ys++l.drop (a+us.length+ys.length):=by
  conv=>lhs;rw[qw,QL]
  exact List.drop_left' h1
 rw[qw,h2,h3,QL,QL,QL]
theorem vb(w:World)(g:Nat)(cs:Array Value){b:Nat}(h:b≠g):(w.setRow g cs).heap[b]?=w.heap[b]?:=by
 simp only[World.setRow,Array.getElem?_modify];rw[Qs (fun e=>h e.symm)]
theorem Nk(w:World)(g:Nat)(cs:Array Value):Fr (some g) w (w.setRow g cs):=⟨rfl,rfl,rfl,by simp[World.setRow],fun b _ hb=>vb w g cs (fun e=>hb (by rw[e])),QI _⟩
theorem Fr.aem(w:World)(rb:Option Nat):Fr rb w w.drew:=⟨rfl,rfl,rfl,QI _,fun _ _ _=>rfl,Nat.le_succ _⟩
theorem Fr.trans'{rb:Option Nat}{a b c:World}(h:Fr rb a b)(k:Fr rb b c):Fr rb a c:=⟨k.os.trans h.os,k.tape.trans h.tape,k.output.trans h.output,QK h.size k.size,fun i hi hne=>(k.block i (QJ hi h.size) hne).trans (h.block i hi hne),QK h.drawn k.drawn⟩
theorem I5{w w':World}{v u:Value}{X:Nat->Prop}(hf:Fr (cq v) w w')(hu:∀b,cq u=some b->cq v=some b\/w.heap.size<=b):dI w w' (Mv v X) (Mv u X):=by
 have key:∀b,b<w.heap.size->¬Mv v X b->w'.heap[b]?=w.heap[b]?/\¬Mv u X b:=fun b hlt hM=>⟨hf.block b hlt fun h=>hM (.inl h),by
  rintro(h|h)
  ·rcases hu _ h with h|h
   ·exact hM (.inl h)
   ·omega
  ·exact hM (.inr h)⟩
 refine⟨fun a x hc hM=> ?_,fun b es ck hb hM=> ?_⟩
 ·have hlt:a.block<w.heap.size:=by
   by_cases h:a.block<w.heap.size
   ·exact h
   ·have:w.heap[a.block]?=none:=by rw[Array.getElem?_eq_none_iff];omega
    simp[World.cell?,this]at hc
  obtain⟨h1,h2⟩:=key _ hlt hM;exact⟨(World.cell?_of_block h1).trans hc,h2⟩
 ·obtain⟨h1,h2⟩:=key b (Q9.1 hb).1 hM;exact⟨h1.trans hb,h2⟩
theorem Pm{w:World}{M:Nat->Prop}{es:List (List PV)}{xs:List Value}(h:bf w M dj es.flatten xs)(h1:∀u∈es,u.all PV.one=true):∀x∈xs,x.oneCell'=true:=by
 intro x hx;obtain⟨q,hq,rfl⟩:=List.mem_iff_getElem.1 hx;have hl:q<es.flatten.length:=by rw[<-h.1];exact hq
 obtain⟨el,hel,hmem⟩:=List.mem_flatten.1 (Q0 hl);exact((h.2 q _ _ (Qv hl) (Qv hq)).one (QH.1 (h1 el hel) _ hmem)).1
structure Sf (P:Program) (f S E I B ov k bytes:Nat):Prop where
 UY:0<k
 hS:P.underlying S=some (.slice E)
 hI:P.underlying I=some (.int .i64)
 U0:∃(i:TypeInfo) (z:Value),P.info? E=some i/\i.zero=some z/\z.cells.size=k/\i.size=k/\i.bytes=bytes
 An:∀(x:Array Value) (w:World),(Extern.SlicesOverlaps.overlaps #[S,S] #[B] x).run P w= .ok (.bool false) w->(callFunc ov x).run P w= .ok (.value (.bool false)) w
 nV:∀(g n c i:Nat),i<=n->n<=c->c<=9223372036854775807->∀(u:Option Addr) (vc:Nat) (w:World),
  Calls P f #[.slice (some ⟨g,0,none⟩) n c,.int .i64 i,.slice u 0 vc] w fun e w'=>e= .returned (.slice (some ⟨g,0,none⟩) n c)/\w'=w
 pS:∀(u:Option Addr) (vc:Nat) (w:World),Calls P f #[.slice none 0 0,.int .i64 0,.slice u 0 vc] w fun e w'=>e= .returned (.slice none 0 0)/\w'=w
 vz:∀(g n c:Nat),n<=c->c<=9223372036854775807->∀(ad:Addr) (m vc:Nat),0<m->∀(w w1:World) (v1:Value),
  (∀ty,(Builtin.append_ #[S,S] ty #[.slice (some ⟨g,0,none⟩) n c,.slice (some ad) m vc]).run P w= .ok v1 w1)->
  Calls P f #[.slice (some ⟨g,0,none⟩) n c,.int .i64 n,.slice (some ad) m vc] w fun e w'=>e= .returned v1/\w'=w1
 mh:∀(ad:Addr) (m vc:Nat),0<m->∀(w w1:World) (v1:Value),
  (∀ty,(Builtin.append_ #[S,S] ty #[.slice none 0 0,.slice (some ad) m vc]).run P w= .ok v1 w1)->
  Calls P f #[.slice none 0 0,.int .i64 0,.slice (some ad) m vc] w fun e w'=>e= .returned v1/\w'=w1
 shift:∀(g n c i:Nat),i<n->c<=9223372036854775807->∀(ad:Addr) (m vc:Nat),0<m->n+m<=c->∀(w w1 w2:World),
  (∀lb cb,(callFunc ov #[.slice (some ad) m vc,.slice (some ⟨g,(i+m)*k,none⟩) lb cb]).run P w= .ok (.value (.bool false)) w)->
  (∀ty dc sc,(Builtin.copy_ #[S,S] ty #[.slice (some ⟨g,(i+m)*k,none⟩) (n+m - (i+m)) dc,.slice (some ⟨g,i*k,none⟩) (n+m - i) sc]).run P w.drew= .ok (goInt (n - i:Nat)) w1)->
  (∀ty dc,(Builtin.copy_ #[S,S] ty #[.slice (some ⟨g,i*k,none⟩) (n+m - i) dc,.slice (some ad) m vc]).run P w1= .ok (goInt m) w2)->
  Calls P f #[.slice (some ⟨g,0,none⟩) n c,.int .i64 i,.slice (some ad) m vc] w fun e w'=>e= .returned (.slice (some ⟨g,0,none⟩) (n+m) c)/\w'=w2
 grow:∀(g n c i:Nat),i<n->n<=c->c<=9223372036854775807->∀(ad:Addr) (m vc:Nat),0<m->c<n+m->∀(N G:Nat),n+m<=G->G<=9223372036854775807->∀(w w1 w2 w3:World),
  (∀ty,(Builtin.append_ #[S,I] ty #[.slice (some ⟨g,0,none⟩) i c,.int .i64 ((n:Int)+(m:Int) - (i:Int))]).run P w= .ok (.slice (some ⟨N,0,none⟩) (n+m) G) w1)->
  (∀ty dc,(Builtin.copy_ #[S,S] ty #[.slice (some ⟨N,i*k,none⟩) (n+m - i) dc,.slice (some ad) m vc]).run P w1= .ok (goInt m) w2)->
  (∀ty dc sc,(Builtin.copy_ #[S,S] ty #[.slice (some ⟨N,(i+m)*k,none⟩) (n+m - (i+m)) dc,.slice (some ⟨g,i*k,none⟩) (n - i) sc]).run P w2.drew= .ok (goInt (n - i:Nat)) w3)->
  Calls P f #[.slice (some ⟨g,0,none⟩) n c,.int .i64 i,.slice (some ad) m vc] w fun e w'=>e= .returned (.slice (some ⟨N,0,none⟩) (n+m) G)/\w'=w3
theorem MO{P:Program}{E k bytes:Nat}(h:(P.info? E).map (fun i=>(i.zero.map (·.cells.size),i.size,i.bytes))=some (some k,k,bytes)):∃(i:TypeInfo) (z:Value),P.info? E=some i/\i.zero=some z/\z.cells.size=k/\i.size=k/\i.bytes=bytes:=by
 rw[Qb]at h;obtain⟨i,h1,h2⟩:=h;injection h2 with h2 h3
 injection h3 with h3 h4
 rw[Qb]at h2;obtain⟨z,h5,h6⟩:=h2;exact⟨i,z,h1,h5,h6,h3,h4⟩
theorem aa2{P:Program}{f S E I B ov k bytes:Nat}(H:Sf P f S E I B ov k bytes){es vs:List (List PV)}{i:Nat}(hi:i<=es.length)(h1e:∀u∈es,u.all PV.one=true)(hvs:∀u∈vs,u.length=k/\u.all PV.one=true)
  (hmax:es.length+vs.length<=maxLen) (hby:(es.length+vs.length)*bytes<=140737488355328):J2 P f E k es [.int .i64 i,.sl vs] (es.take i++vs++es.drop i):=by
 have hk0:=H.UY;intro w X hX v args hvX ⟨xs,hown,hke,hr⟩ hargs;obtain⟨a1,args,rfl,ha1,hargs⟩:=hargs.cons_inv;obtain⟨a2,args,rfl,ha2,hargs⟩:=hargs.cons_inv;obtain rfl:=hargs.nY;obtain rfl:=ha1.fG;obtain⟨inf,z,hi1,hi2,hi3,hi4,hi5⟩:=H.U0;have hsz:(P.info? E).map (·.size)=some k:=by rw[hi1];simp[hi4]
 have hmem:∀u∈es.take i++vs++es.drop i,u.length=k:=by
  intro u hu;rw[Qz,Qz]at hu;rcases hu with(hu|hu)|hu
  ·exact hke u (Q1 hu)
  ·exact(hvs u hu).1
  ·exact hke u (Q2 hu)
 have same:vs=[]->es.take i++vs++es.drop i=es:=fun h=>by rw[h];simp
 by_cases hm0:vs=[]
 ·rw[same hm0]
  have hz:∃u vc,a2= .slice u 0 vc:=by
   subst hm0;rcases ha2.DA with⟨h,_⟩|⟨ad,c,_,_,h,_⟩
   ·exact⟨_,_,h⟩
   ·exact⟨_,_,h⟩
  obtain⟨u,vc,rfl⟩:=hz
  have post:∀(e:Ending) (w':World),e= .returned v/\w'=w->∃u,e= .returned u/\xV w' (Mv u X) E k u es/\(∀b,cq u=some b->cq v=some b\/w.heap.size<=b)/\Fr (cq v) w w':=by
   rintro e w' ⟨rfl,rfl⟩;exact⟨v,rfl,⟨xs,hown,hke,hr⟩,fun b hb=> .inl hb,Fr.refl _ _⟩
  rcases hown.2 with⟨rfl,h0⟩|⟨g,cap,cur,rfl,_,hg,hnc,hcm,hcs,htk⟩
  ·obtain rfl:i=0:=by omega
   exact(H.pS u vc w).mono fun e w' h=>post e w' h
  ·exact(H.nV g es.length cap i hi hnc (by simp only[maxLen]at hcm;omega) u vc w).mono fun e w' h=>post e w' h
 ·
  have hm:0<vs.length:=List.length_pos_iff.2 hm0;rcases ha2.DA with⟨_,h⟩|⟨ad,vc,k',us,rfl,hk',hru,hcu,_,_⟩
  ·exact absurd h hm0
  have hul:us.length=vs.length*k:=by rw[hru.1,p6 vs k fun u hu=>(hvs u hu).1]
  have hone:=Pm hru fun u hu=>(hvs u hu).2
  have hpos:0<us.length:=by rw[hul];exact Nat.mul_pos hm hk0
  obtain⟨c0,hc0⟩:∃c0,us[0]?=some c0:=⟨_,Qv hpos⟩;obtain⟨had,hadM⟩:=hcu 0 c0 hc0;have had:w.cell? ad=some c0:=by rw[XC]at had;exact had
  have hcell:∀(j:Nat) (u:Value),us[j]?=some u->w.cell? (ad.add j)=some u:=fun j u hj=>(hcu j u hj).1
  have hadlt:ad.block<w.heap.size:=by
   by_cases h:ad.block<w.heap.size
   ·exact h
   ·have:w.heap[ad.block]?=none:=by rw[Array.getElem?_eq_none_iff];omega
    simp[World.cell?,this]at had
  have fin:∀(v1:Value) (w1:World),w1.ownsRow 0 E k v1 (es.length+vs.length) (xs++us)->w.grownBy w1 v.ownBlock->(v1.ownBlock=v.ownBlock\/v1.ownBlock=some w.heap.size)->(∃a n c,v= .slice a n c)->i=es.length->w.drawn<=w1.drawn->
    ∀(e:Ending) (w':World),e= .returned v1/\w'=w1->∃u,e= .returned u/\xV w' (Mv u X) E k u (es.take i++vs++es.drop i)/\(∀b,cq u=some b->cq v=some b\/w.heap.size<=b)/\Fr (cq v) w w':=by
   rintro v1 w1 ho hgr hat ⟨a0,n0,c0,hv0⟩ hie hdr e w' ⟨rfl,rfl⟩;have hb0:v.ownBlock=cq v:=mo hv0
   have hb1:v1.ownBlock=cq v1:=by
    rcases ho.2 with⟨h,_⟩|⟨_,_,_,h,_⟩
    ·exact mo h
    ·exact mo h
   have hfr:Fr (cq v) w w':=⟨hgr.os,hgr.tape,hgr.output,hgr.size,fun b hb hne=>hgr.block b hb (fun h=>hne (by rw[<-hb0,<-h])),hdr⟩
   have hub:∀b,cq v1=some b->cq v=some b\/w.heap.size<=b:=fun b hb=>by
    rw[<-hb1]at hb;rcases hat with h|h
    ·exact .inl (by rw[<-hb0,<-h];exact hb)
    ·rw[h]at hb;injection hb with hb;exact .inr (by omega)
   have he:es.take i++vs++es.drop i=es++vs:=by subst hie;simp
   rw[he]at hmem ⊢;refine⟨v1,rfl,⟨xs++us,by rw[QB];exact ho,hmem,?_⟩,hub,hfr⟩
   rw[List.flatten_append];exact(hr.append hru).mono (I5 hfr hub) (dj.le _)
  rcases hown.2 with⟨rfl,h0⟩|⟨g,cap,cur,rfl,hb0,hg,hnc,hcm,hcs,htk⟩
  ·obtain rfl:i=0:=by omega
   obtain⟨v1,w1,r1,r2,r3,_,r5⟩:=run_append_own_at (P:=P) w 0 S 0 E inf z k bytes H.hS hi1 hi2 hi4 hi5 hi3 hk0 (.slice none 0 0) es.length xs hown ad vs.length vc us hul hcell hone hmax hby (QS _);exact(H.mh ad vs.length vc hm w w1 v1 fun ty=>r1).mono fun e w' h=>fin v1 w1 r2 r3 r5 ⟨_,_,_,rfl⟩ h0.symm (B4 (P:=P) w 0 S 0 E inf z k bytes H.hS hi1 hi2 hi4 hi5 hk0 (.slice none 0 0) es.length xs hown ad vs.length vc us hul hcell hone hmax hby r1) e w' h
  ·have hcm':cap<=9223372036854775807:=by simp only[maxLen]at hcm;omega
   by_cases hie:i=es.length
   ·obtain⟨v1,w1,r1,r2,r3,_,r5⟩:=run_append_own_at (P:=P) w 0 S 0 E inf z k bytes H.hS hi1 hi2 hi4 hi5 hi3 hk0 _ es.length xs hown ad vs.length vc us hul hcell hone hmax hby (QS _);have:=H.vz g es.length cap hnc hcm' ad vs.length vc hm w w1 v1 fun ty=>r1
    rw[<-hie]at this ⊢;exact this.mono fun e w' h=>fin v1 w1 r2 r3 r5 ⟨_,_,_,rfl⟩ hie (B4 (P:=P) w 0 S 0 E inf z k bytes H.hS hi1 hi2 hi4 hi5 hk0 _ es.length xs hown ad vs.length vc us hul hcell hone hmax hby r1) e w' h
   ·have hin:i<es.length:=by omega
    have hM:∀b,Mv (.slice (some ⟨g,0,none⟩) es.length cap) X b->True:=fun _ _=>trivial
    have hne:ad.block≠g:=fun h=>hadM (.inl (by rw[h];rfl))
    have hglt:g<w.heap.size:=(Q9.1 hg).1;have hxl:xs.length=es.length*k:=hown.1;have hcl:es.length*k<=cur.toList.length:=by simpa[hcs]using Qq63 k hnc
    have hx1:=Pm hr h1e;obtain⟨ys,hys⟩:∃ys,ys=xs.drop (i*k):=⟨_,rfl⟩;have hyl:ys.length=(es.length - i)*k:=by rw[hys,List.length_drop,hxl,Nat.sub_mul]
    have hy1:∀y∈ys,y.oneCell'=true:=fun y hy=>hx1 y (Q2 (hys▸hy))
    have hcx:∀(j:Nat) (u:Value),xs[j]?=some u->w.cell? ⟨g,j,none⟩=some u:=fun j u hj=>by
     refine pz hg ?_;rw[<-htk,Qq68]at hj;split at hj
     ·exact hj
     ·cases hj
    have hcy:∀(j:Nat) (u:Value),ys[j]?=some u->w.cell? ((⟨g,i*k,none⟩:Addr).add j)=some u:=fun j u hj=>by
     rw[add_mid];rw[hys,List.getElem?_drop]at hj;exact hcx _ u hj
    have hik:i*k+us.length=(i+vs.length)*k:=by rw[hul,Qq73]
    have htot:i*k+us.length+ys.length=(es.length+vs.length)*k:=by
     rw[hul,hyl,<-Qq73,<-Qq73];congr 1;omega
    have hres:bf w (Mv (.slice (some ⟨g,0,none⟩) es.length cap) X) dj (es.take i++vs++es.drop i).flatten (xs.take (i*k)++us++ys):=by
     rw[List.flatten_append,List.flatten_append,tx k i es hke,xO k i es hke,hys];exact((hr.take _).append hru).append (hr.drop _)
    have hlen:(es.take i++vs++es.drop i).length=es.length+vs.length:=by simp;omega
    have htl:(xs.take (i*k)++us++ys).length=(es.length+vs.length)*k:=by
     rw[QB,QB,List.length_take,hxl,Nat.min_eq_left (Qq63 k hi)];exact htot
    by_cases hroom:es.length+vs.length<=cap
    ·
     have hfit:(es.length+vs.length)*k<=cur.toList.length:=by simpa[hcs]using Qq63 k hroom
     have r1:=vH (P:=P) w.drew S S 0 E g ((i+vs.length)*k) (es.length+vs.length - (i+vs.length)) 0 ⟨g,i*k,none⟩ (es.length+vs.length - i) 0 cur E ys k (es.length - i) H.hS hsz hg
      (by simp only[Nat.min_def];split<;>omega) hyl hcy (by simp only[Array.length_toList]at hfit;omega) hy1
     obtain⟨cur1,hcur1⟩:∃cur1:Array Value,cur1=(qw cur.toList ((i+vs.length)*k) ys).toArray:=⟨_,rfl⟩;have hg1:(w.drew.setRow g cur1).heap[g]?=some (.cells cur1 E (0,0)):=setRow_heap w.drew g cur _ E _ hg
     have hl1:cur1.size=cap*k:=by
      rw[hcur1,List.size_toArray,EC (by rw[<-hik];omega),Array.length_toList,hcs]
     have r2:=vH (P:=P) (w.drew.setRow g cur1) S S 0 E g (i*k) (es.length+vs.length - i) 0 ad vs.length vc cur1 E us k vs.length H.hS hsz hg1
      (by simp only[Nat.min_def];split<;>omega) hul (fun j u hj=>by rw[World.cell?_of_block (w:=w) (vb w.drew g cur1 (by rw[Fm];exact hne))];exact hcell j u hj)
      (by rw[hl1,<-hcs,<-Array.length_toList];omega) hone
     obtain⟨cur2,hcur2⟩:∃cur2:Array Value,cur2=(qw cur1.toList (i*k) us).toArray:=⟨_,rfl⟩;have hg2:((w.drew.setRow g cur1).setRow g cur2).heap[g]?=some (.cells cur2 E (0,0)):=setRow_heap _ g cur1 _ E _ hg1
     have hc2:cur2.toList=xs.take (i*k)++us++ys++cur.toList.drop ((es.length+vs.length)*k):=by
      rw[hcur2,hcur1,<-hik,SF (by omega),htot,<-htk,List.take_take,Nat.min_eq_left (Qq63 k hi)]
     have hC:cur.toList.length=cap*k:=(Array.length_toList (xs:=cur)).trans hcs;have hL1:cur1.toList.length=cap*k:=(Array.length_toList (xs:=cur1)).trans hl1;have hfr:Fr (some g) w ((w.drew.setRow g cur1).setRow g cur2):=(Fr.aem w _).trans' ((Nk _ g _).trans' (Nk _ g _))
     have hcap0:cur.size≠0:=by
      have:0<cap:=by omega
      rw[hcs];exact Nat.ne_of_gt (Nat.mul_pos this hk0)
     refine(H.shift g es.length cap i hin hcm' ad vs.length vc hm hroom w (w.drew.setRow g cur1) ((w.drew.setRow g cur1).setRow g cur2) (fun lb cb=> ?_) (fun ty dc sc=> ?_) (fun ty dc=> ?_)).mono ?_
     ·exact H.An _ w (I9 w S B E H.hS k (fun w'=>by simp[Go.sizeOf,typeInfo,hi1,hi4]) ad ⟨g,(i+vs.length)*k,none⟩ vs.length vc lb cb hne had hg hcap0)
     ·rw[hcur1];exact r1
     ·rw[hcur2];exact r2
     ·rintro e w' ⟨rfl,rfl⟩;refine⟨_,rfl,⟨xs.take (i*k)++us++ys,⟨?_,.inr ⟨g,cap,cur2,by rw[hlen],hb0,hg2,by rw[hlen];exact hroom,hcm,?_,?_⟩⟩,hmem,hres.mono (@I5 w _ (.slice (some ⟨g,0,none⟩) es.length cap) (.slice (some ⟨g,0,none⟩) (es.length+vs.length) cap) X hfr fun b hb=> .inl hb) (dj.le _)⟩,fun b hb=> .inl hb,hfr⟩
      ·rw[htl,hlen]
      ·rw[hcur2,List.size_toArray,EC (by rw[hL1];omega),hL1]
      ·rw[hlen,hc2,<-htl,List.take_left' rfl]
    ·
     have hik2:i+(es.length+vs.length - i)=es.length+vs.length:=by omega
     have hold:(Builtin.firstCells inf.size i (.slice (some ⟨g,0,none⟩) i cap)).run P w.drew= .ok (xs.take (i*k)).toArray w.drew:=by
      rw[hi4];refine run_firstCells_some w.drew k i ⟨g,0,none⟩ i cap (xs.take (i*k)) (by rw[List.length_take,hxl];exact Nat.min_eq_left (Qq63 k hi)) fun j u hj=> ?_
      rw[add_mid,Nat.zero_add];rw[Qq68]at hj;split at hj
      ·exact hcx j u hj
      ·cases hj
     have hmax':es.length+vs.length<=9223372036854775807:=by simp only[maxLen]at hmax;omega
     have r0:=fun ty=>Lib.run_append_grow_zeros (P:=P) w S I ty E inf z .i64 .i64 H.hS H.hI hi1 hi2 (some ⟨g,0,none⟩) i cap (xs.take (i*k)) hold (es.length+vs.length - i) (by omega) (by omega) (by omega) (by omega)
      (by rw[hi5];have:=Qq63 bytes (show es.length+vs.length - i<=es.length+vs.length by omega);omega) (by rw[hi5,hik2];exact growslice_fits (by omega) hby)
     rw[hik2]at r0;obtain⟨G,hG⟩:∃G,G=grownCap w (es.length+vs.length) cap E:=⟨_,rfl⟩;have hGn:es.length+vs.length<=G:=by rw[hG];exact grownCap_ge w _ _ _
     have hGm:G<=maxLen:=by rw[hG];exact grownCap_le_maxLen w _ _ _ hmax
     have hG63:G<=9223372036854775807:=by simp only[maxLen]at hGm;omega
     rw[<-hG]at r0;obtain⟨row,hrow⟩:∃row:Array Value,row=(xs.take (i*k)).toArray++Builtin.zeroCells z.cells (es.length+vs.length - i)++Builtin.zeroCells z.cells (G - (es.length+vs.length)):=⟨_,rfl⟩;rw[<-hrow]at r0;have hrt:(xs.take (i*k)).length=i*k:=by rw[List.length_take,hxl];exact Nat.min_eq_left (Qq63 k hi)
     have hrl:row.size=G*k:=by
      rw[hrow,Array.size_append,Array.size_append,List.size_toArray,hrt,size_zeroCells,size_zeroCells,hi3,<-Qq73,<-Qq73];congr 1;omega
     have hrtake:row.toList.take (i*k)=xs.take (i*k):=by
      rw[hrow,Array.toList_append,Array.toList_append,QL];exact List.take_left' hrt
     have hN:(w.drew.alloc (.cells row E)).heap[w.heap.size]?=some (.cells row E (0,0)):=by
      show(w.heap.push (.cells row E))[w.heap.size]?=_;simp
     have hkeep:∀b,b<w.heap.size->(w.drew.alloc (.cells row E)).heap[b]?=w.heap[b]?:=fun b hb=>Below.heap_alloc w.drew _ b hb
     have hfit:(es.length+vs.length)*k<=row.size:=by rw[hrl];exact Qq63 k hGn
     have r1:=vH (P:=P) (w.drew.alloc (.cells row E)) S S 0 E w.heap.size (i*k) (es.length+vs.length - i) 0 ad vs.length vc row E us k vs.length H.hS hsz hN
      (by simp only[Nat.min_def];split<;>omega) hul (fun j u hj=>by rw[World.cell?_of_block (w:=w) (hkeep _ (by rw[Fm];exact hadlt))];exact hcell j u hj) (by omega) hone
     have hR:row.toList.length=G*k:=(Array.length_toList (xs:=row)).trans hrl;obtain⟨cur1,hcur1⟩:∃cur1:Array Value,cur1=(qw row.toList (i*k) us).toArray:=⟨_,rfl⟩;have hl1:cur1.size=G*k:=by rw[hcur1,List.size_toArray,EC (by rw[hR];omega),hR]
     have hL1:cur1.toList.length=G*k:=(Array.length_toList (xs:=cur1)).trans hl1;have hg1:((w.drew.alloc (.cells row E)).setRow w.heap.size cur1).drew.heap[w.heap.size]?=some (.cells cur1 E (0,0)):=setRow_heap _ _ row _ E _ hN
     have r2:=vH (P:=P) ((w.drew.alloc (.cells row E)).setRow w.heap.size cur1).drew S S 0 E w.heap.size ((i+vs.length)*k) (es.length+vs.length - (i+vs.length)) 0 ⟨g,i*k,none⟩ (es.length - i) 0 cur1 E ys k (es.length - i) H.hS hsz hg1
      (by simp only[Nat.min_def];split<;>omega) hyl (fun j u hj=>by
       rw[World.cell?_of_block (w:=w) (w':=((w.drew.alloc (.cells row E)).setRow w.heap.size cur1).drew) (((vb _ w.heap.size cur1 (by rw[Fm];exact Nat.ne_of_lt hglt)).trans (hkeep _ (by rw[Fm];exact hglt))))]
       exact hcy j u hj) (by rw[hl1,<-hrl,<-hik];omega) hy1
     obtain⟨cur2,hcur2⟩:∃cur2:Array Value,cur2=(qw cur1.toList ((i+vs.length)*k) ys).toArray:=⟨_,rfl⟩;obtain⟨w3,hw3⟩:∃w3,w3=((w.drew.alloc (.cells row E)).setRow w.heap.size cur1).drew.setRow w.heap.size cur2:=⟨_,rfl⟩;have hg2:w3.heap[w.heap.size]?=some (.cells cur2 E (0,0)):=by rw[hw3];exact setRow_heap _ _ cur1 _ E _ hg1
     have hc2:cur2.toList=xs.take (i*k)++us++ys++row.toList.drop ((es.length+vs.length)*k):=by
      rw[hcur2,hcur1,<-hik,UI (by rw[hR];omega),htot,hrtake]
     have hfr:Fr (some g) w w3:=by
      rw[hw3];refine⟨rfl,rfl,rfl,by simp[World.setRow],fun b hb _=> ?_,by show w.drawn<=w.drawn+1+1;omega⟩
      rw[vb _ _ _ (Nat.ne_of_lt hb)];exact(vb _ w.heap.size cur1 (Nat.ne_of_lt hb)).trans (hkeep b hb)
     refine(H.grow g es.length cap i hin hnc hcm' ad vs.length vc hm (by omega) w.heap.size G hGn hG63 w (w.drew.alloc (.cells row E)) ((w.drew.alloc (.cells row E)).setRow w.heap.size cur1) w3 (fun ty=> ?_) (fun ty dc=> ?_) (fun ty dc sc=> ?_)).mono ?_
     ·have:=r0 ty;rw[show((es.length+vs.length - i:Nat):Int)=(es.length:Int)+(vs.length:Int) - (i:Int)by omega]at this
      exact this
     ·rw[hcur1];exact r1
     ·rw[hw3,hcur2];exact r2
     ·rintro e w' ⟨rfl,rfl⟩
      have hub:∀b,cq (.slice (some ⟨w.heap.size,0,none⟩) (es.length+vs.length) G)=some b->cq (.slice (some ⟨g,0,none⟩) es.length cap)=some b\/w.heap.size<=b:=fun b hb=>by
       injection hb with hb
       exact .inr (Nat.le_of_eq hb)
      refine⟨_,rfl,⟨xs.take (i*k)++us++ys,⟨?_,.inr ⟨w.heap.size,G,cur2,by rw[hlen],QS _,hg2,by rw[hlen];exact hGn,hGm,?_,?_⟩⟩,hmem,hres.mono (@I5 w _ (.slice (some ⟨g,0,none⟩) es.length cap) (.slice (some ⟨w.heap.size,0,none⟩) (es.length+vs.length) G) X hfr hub) (dj.le _)⟩,hub,hfr⟩
      ·rw[htl,hlen]
      ·rw[hcur2,List.size_toArray,EC (by rw[hL1,<-hik];omega),hL1]
      ·rw[hlen,hc2,<-htl,List.take_left' rfl]
end
end Go.TQ
end
noncomputable section
namespace Go.Proofs.YtjbfdglebjnelaaGreat
open Go.RowKit Go.TQ Go.Lib
namespace acR
theorem zE:∀w:World,(Go.sizeOf 57).run Tryz.prog w= .ok 7 w:=fun _=>by kernel_rfl
set_option maxHeartbeats 4000000 in
set_option maxRecDepth 100000 in
theorem nV(g n c i:Nat)(hi:i<=n)(hc:n<=c)(hc63:c<=9223372036854775807)(u:Option Addr)(vc:Nat)(w:World):
  Calls Tryz.prog 108 #[.slice (some ⟨g,0,none⟩) n c,.int .i64 i,.slice u 0 vc] w fun e w'=>e= .returned (.slice (some ⟨g,0,none⟩) n c)/\w'=w:=by
 have zE:=zE;have uS:=run_underlying Tryz.underlying29
 go_enter Tryz.func108,Tryz.ntmps108
 go_wp2
 all_goals go_ret
 all_goals exact⟨rfl,rfl⟩
set_option maxHeartbeats 4000000 in
set_option maxRecDepth 100000 in
theorem pS(u:Option Addr)(vc:Nat)(w:World):
  Calls Tryz.prog 108 #[.slice none 0 0,.int .i64 0,.slice u 0 vc] w fun e w'=>e= .returned (.slice none 0 0)/\w'=w:=by
 have zE:=zE;have uS:=run_underlying Tryz.underlying29
 go_enter Tryz.func108,Tryz.ntmps108
 go_wp2
 all_goals go_ret
 all_goals exact⟨rfl,rfl⟩
set_option maxHeartbeats 4000000 in
set_option maxRecDepth 100000 in
theorem vz(g n c:Nat)(hc:n<=c)(hc63:c<=9223372036854775807)(ad:Addr)(m vc:Nat)(hm:0<m)(w w1:World)(v1:Value)
  (hr:∀ty,(Builtin.append_ #[29,29] ty #[.slice (some ⟨g,0,none⟩) n c,.slice (some ad) m vc]).run Tryz.prog w= .ok v1 w1):
  Calls Tryz.prog 108 #[.slice (some ⟨g,0,none⟩) n c,.int .i64 n,.slice (some ad) m vc] w fun e w'=>e= .returned v1/\w'=w1:=by
 have zE:=zE;have uS:=run_underlying Tryz.underlying29;have hz1:¬((m:Int)=0):=by omega
 go_enter Tryz.func108,Tryz.ntmps108
 go_wp2_with (at_builtin;refine Lib.wpList_append_run _ rfl _ _ _ _ rfl _ _ rfl rfl _ _ (hr _) ?_)
 all_goals go_ret
 all_goals exact⟨rfl,rfl⟩
set_option maxHeartbeats 4000000 in
set_option maxRecDepth 100000 in
theorem mh(ad:Addr)(m vc:Nat)(hm:0<m)(w w1:World)(v1:Value)
  (hr:∀ty,(Builtin.append_ #[29,29] ty #[.slice none 0 0,.slice (some ad) m vc]).run Tryz.prog w= .ok v1 w1):
  Calls Tryz.prog 108 #[.slice none 0 0,.int .i64 0,.slice (some ad) m vc] w fun e w'=>e= .returned v1/\w'=w1:=by
 have zE:=zE;have uS:=run_underlying Tryz.underlying29;have hz1:¬((m:Int)=0):=by omega
 go_enter Tryz.func108,Tryz.ntmps108
 go_wp2_with (at_builtin;refine Lib.wpList_append_run _ rfl _ _ _ _ rfl _ _ rfl rfl _ _ (hr _) ?_)
 all_goals go_ret
 all_goals exact⟨rfl,rfl⟩
set_option maxHeartbeats 4000000 in
set_option maxRecDepth 100000 in
theorem shift(g n c i:Nat)(hi:i<n)(hc63:c<=9223372036854775807)(ad:Addr)(m vc:Nat)(hm:0<m)(hroom:n+m<=c)(w w1 w2:World)
  (hov:∀lb cb,(callFunc 162 #[.slice (some ad) m vc,.slice (some ⟨g,(i+m)*7,none⟩) lb cb]).run Tryz.prog w= .ok (.value (.bool false)) w)
  (h1:∀ty dc sc,(Builtin.copy_ #[29,29] ty #[.slice (some ⟨g,(i+m)*7,none⟩) (n+m - (i+m)) dc,.slice (some ⟨g,i*7,none⟩) (n+m - i) sc]).run Tryz.prog w.drew= .ok (goInt (n - i:Nat)) w1)
  (h2:∀ty dc,(Builtin.copy_ #[29,29] ty #[.slice (some ⟨g,i*7,none⟩) (n+m - i) dc,.slice (some ad) m vc]).run Tryz.prog w1= .ok (goInt m) w2):
  Calls Tryz.prog 108 #[.slice (some ⟨g,0,none⟩) n c,.int .i64 i,.slice (some ad) m vc] w fun e w'=>e= .returned (.slice (some ⟨g,0,none⟩) (n+m) c)/\w'=w2:=by
 have zE:=zE;have uS:=run_underlying Tryz.underlying29;have hz1:¬((m:Int)=0):=by omega
 have hz2:¬((i:Int)=(n:Int)):=by omega
 have mixed:Tryz.prog.follows .mixedOrders=true:=by kernel_rfl
 have hw1:IntKind.i64.wrap ((i:Int)+(m:Int))=(i:Int)+(m:Int):=by rw[IntKind.wrap_i64];omega
 have hb1:(0:Int)<=(i:Int)+(m:Int):=by omega
 have hin:i<=n:=by omega
 have htn:((i:Int)+(m:Int)).toNat=i+m:=by omega
 have hb2:¬(c=i+m):=by omega
 have hb3:(i:Int)<=(n:Int)+(m:Int):=by omega
 have hb4:¬(c=i):=by omega
 go_enter Tryz.func108,Tryz.ntmps108
 go_wp2_with (simp only[hov])
 go_region_law_o (refine step_copy_runI rfl _ _ 29 29 rfl _ _ (by simp[Act.eval,Act.put]) (by simp[Act.eval,Act.put]) (h1 _ _ _) ?_)
 go_wp2_with (at_builtin;refine wpList_copy_runI _ rfl _ _ 29 29 rfl _ _ rfl rfl (h2 _ _) ?_)
 go_ret
 exact⟨rfl,rfl⟩
set_option maxHeartbeats 4000000 in
set_option maxRecDepth 100000 in
theorem grow(g n c i:Nat)(hi:i<n)(hc:n<=c)(hc63:c<=9223372036854775807)(ad:Addr)(m vc:Nat)(hm:0<m)(hroom:c<n+m)(N G:Nat)(hGn:n+m<=G)(hG63:G<=9223372036854775807)(w w1 w2 w3:World)
  (hz:∀ty,(Builtin.append_ #[29,3] ty #[.slice (some ⟨g,0,none⟩) i c,.int .i64 ((n:Int)+(m:Int) - (i:Int))]).run Tryz.prog w= .ok (.slice (some ⟨N,0,none⟩) (n+m) G) w1)
  (h1:∀ty dc,(Builtin.copy_ #[29,29] ty #[.slice (some ⟨N,i*7,none⟩) (n+m - i) dc,.slice (some ad) m vc]).run Tryz.prog w1= .ok (goInt m) w2)
  (h2:∀ty dc sc,(Builtin.copy_ #[29,29] ty #[.slice (some ⟨N,(i+m)*7,none⟩) (n+m - (i+m)) dc,.slice (some ⟨g,i*7,none⟩) (n - i) sc]).run Tryz.prog w2.drew= .ok (goInt (n - i:Nat)) w3):
  Calls Tryz.prog 108 #[.slice (some ⟨g,0,none⟩) n c,.int .i64 i,.slice (some ad) m vc] w fun e w'=>e= .returned (.slice (some ⟨N,0,none⟩) (n+m) G)/\w'=w3:=by
 have zE:=zE;have uS:=run_underlying Tryz.underlying29;have hz1:¬((m:Int)=0):=by omega
 have hz2:¬((i:Int)=(n:Int)):=by omega
 have hz3:(c:Int)<(n:Int)+(m:Int):=by omega
 have mixed:Tryz.prog.follows .mixedOrders=true:=by kernel_rfl
 have hw1:IntKind.i64.wrap ((i:Int)+(m:Int))=(i:Int)+(m:Int):=by rw[IntKind.wrap_i64];omega
 have hb1:(0:Int)<=(i:Int)+(m:Int):=by omega
 have hin:i<=n:=by omega
 have htn:((i:Int)+(m:Int)).toNat=i+m:=by omega
 have hb3:(i:Int)<=(n:Int):=by omega
 have hGi:¬(G=i):=by omega
 have hGim:¬(G=i+m):=by omega
 have hci:¬(c=i):=by omega
 go_enter Tryz.func108,Tryz.ntmps108
 go_wp2_with (first
  |(at_builtin;refine Lib.wpList_append_run _ rfl _ _ _ _ rfl _ _ rfl rfl _ _ (hz _) ?_)
  |(at_builtin;refine wpList_copy_runI _ rfl _ _ 29 29 rfl _ _ rfl rfl (h1 _ _) ?_))
 go_region_law_o (refine step_copy_runI rfl _ _ 29 29 rfl (.slice (some ⟨N,(i+m)*7,none⟩) (n+m - (i+m)) (G - (i+m))) (.slice (some ⟨g,i*7,none⟩) (n - i) (c - i)) (by simp[Act.eval,Act.put]) (by simp[Act.eval,Act.put]) (h2 3 (G - (i+m)) (c - i)) ?_)
 go_wp2
 go_ret
 exact⟨rfl,rfl⟩
theorem ways:Sf Tryz.prog 108 29 57 3 4 162 7 120 where
 UY:=by decide
 hS:=Tryz.underlying29
 hI:=Tryz.underlying3
 U0:=MO (by kernel_rfl)
 An:=fun x w h=>by
  rw[run_callFunc_extern Tryz.func162 (by kernel_rfl) (by kernel_rfl) (by kernel_rfl) (e:=Extern.SlicesOverlaps.overlaps #[29,29] #[4]) (by kernel_rfl),h]
  rfl
 nV:=nV
 pS:=pS
 vz:=vz
 mh:=mh
 shift:=shift
 grow:=grow
theorem enters:Go.TQ.Enters Tryz.prog 108:=⟨Tryz.f108,Tryz.func108,by kernel_rfl,by kernel_rfl⟩
end acR
end Go.Proofs.YtjbfdglebjnelaaGreat
end
noncomputable section
namespace Go.TQ
def MP{α:Type}(bytes:Nat)(s:List α)(i:Int)(v:List α):Option (List α):=bif decide (0<=i)&&decide (i<=((s.length:Nat):Int))&&bp bytes (s.length+v.length)then some (s.take i.toNat++v++s.drop i.toNat)else none
theorem dD{P:Program}{f S E I B ov k bytes:Nat}(H:Sf P f S E I B ov k bytes)(hent:Enters P f){T:Ty}(hk:∀x:T.den,(T.pv x).length=k):
  dV.Sound P (U:=U) (.cw f E k T [.ty (Ty.i .i64),.ty (Ty.sl T)] fun s a=>MP bytes s a.1 a.2.1):=by
 refine⟨hent,fun xs a ys h=> ?_⟩
 suffices key:∀(i:Int) (v:List T.den) (ys:List T.den),MP bytes xs i v=some ys->J2 P f E k (xs.map T.pv) [.int .i64 i,.sl (v.map T.pv)] (ys.map T.pv)from key a.1 a.2.1 ys h
 clear h;intro i v ys h;unfold MP at h
 cases hc:(decide (0<=i)&&decide (i<=((xs.length:Nat):Int))&&bp bytes (xs.length+v.length))with
 |false=>rw[hc]at h;cases h
 |true=>
  rw[hc]at h;injection h with h
  subst h;simp only[Qm,Qi]at hc;obtain⟨⟨h0,h1⟩,h2⟩:=hc;obtain⟨h3,h4⟩:=AV h2;have hone:∀x:T.den,(T.pv x).all PV.one=true:=fun x=>QH.2 fun y hy=>Rj (K.gN T x y hy)
  have:=aa2 H (es:=xs.map T.pv) (vs:=v.map T.pv) (i:=i.toNat) (by rw[QC];omega)
   (fun u hu=>by obtain⟨x,_,rfl⟩:=QP.1 hu;exact hone x) (fun u hu=>by obtain⟨x,_,rfl⟩:=QP.1 hu;exact⟨hk x,hone x⟩)
   (by rw[QC,QC];exact h4) (by rw[QC,QC];exact h3)
  rw[<-List.map_take,<-List.map_drop,<-List.map_append,<-List.map_append,show((i.toNat:Nat):Int)=i by omega]at this
  exact this
end Go.TQ
end
noncomputable section
namespace Go.Proofs.YtjbfdglebjnelaaGreat
open Go.RowKit Go.TQ Go.Lib
namespace acQ
theorem zE:∀w:World,(Go.sizeOf 64).run Tryz.prog w= .ok 15 w:=fun _=>by kernel_rfl
set_option maxHeartbeats 4000000 in
set_option maxRecDepth 100000 in
theorem nV(g n c i:Nat)(hi:i<=n)(hc:n<=c)(hc63:c<=9223372036854775807)(u:Option Addr)(vc:Nat)(w:World):
  Calls Tryz.prog 177 #[.slice (some ⟨g,0,none⟩) n c,.int .i64 i,.slice u 0 vc] w fun e w'=>e= .returned (.slice (some ⟨g,0,none⟩) n c)/\w'=w:=by
 have zE:=zE;have uS:=run_underlying Tryz.underlying34
 go_enter Tryz.func177,Tryz.ntmps177
 go_wp2
 all_goals go_ret
 all_goals exact⟨rfl,rfl⟩
set_option maxHeartbeats 4000000 in
set_option maxRecDepth 100000 in
theorem pS(u:Option Addr)(vc:Nat)(w:World):
  Calls Tryz.prog 177 #[.slice none 0 0,.int .i64 0,.slice u 0 vc] w fun e w'=>e= .returned (.slice none 0 0)/\w'=w:=by
 have zE:=zE;have uS:=run_underlying Tryz.underlying34
 go_enter Tryz.func177,Tryz.ntmps177
 go_wp2
 all_goals go_ret
 all_goals exact⟨rfl,rfl⟩
set_option maxHeartbeats 4000000 in
set_option maxRecDepth 100000 in
theorem vz(g n c:Nat)(hc:n<=c)(hc63:c<=9223372036854775807)(ad:Addr)(m vc:Nat)(hm:0<m)(w w1:World)(v1:Value)
  (hr:∀ty,(Builtin.append_ #[34,34] ty #[.slice (some ⟨g,0,none⟩) n c,.slice (some ad) m vc]).run Tryz.prog w= .ok v1 w1):
  Calls Tryz.prog 177 #[.slice (some ⟨g,0,none⟩) n c,.int .i64 n,.slice (some ad) m vc] w fun e w'=>e= .returned v1/\w'=w1:=by
 have zE:=zE;have uS:=run_underlying Tryz.underlying34;have hz1:¬((m:Int)=0):=by omega
 go_enter Tryz.func177,Tryz.ntmps177
 go_wp2_with (at_builtin;refine Lib.wpList_append_run _ rfl _ _ _ _ rfl _ _ rfl rfl _ _ (hr _) ?_)
 all_goals go_ret
 all_goals exact⟨rfl,rfl⟩
set_option maxHeartbeats 4000000 in
set_option maxRecDepth 100000 in
theorem mh(ad:Addr)(m vc:Nat)(hm:0<m)(w w1:World)(v1:Value)
  (hr:∀ty,(Builtin.append_ #[34,34] ty #[.slice none 0 0,.slice (some ad) m vc]).run Tryz.prog w= .ok v1 w1):
  Calls Tryz.prog 177 #[.slice none 0 0,.int .i64 0,.slice (some ad) m vc] w fun e w'=>e= .returned v1/\w'=w1:=by
 have zE:=zE;have uS:=run_underlying Tryz.underlying34;have hz1:¬((m:Int)=0):=by omega
 go_enter Tryz.func177,Tryz.ntmps177
 go_wp2_with (at_builtin;refine Lib.wpList_append_run _ rfl _ _ _ _ rfl _ _ rfl rfl _ _ (hr _) ?_)
 all_goals go_ret
 all_goals exact⟨rfl,rfl⟩
set_option maxHeartbeats 4000000 in
set_option maxRecDepth 100000 in
theorem shift(g n c i:Nat)(hi:i<n)(hc63:c<=9223372036854775807)(ad:Addr)(m vc:Nat)(hm:0<m)(hroom:n+m<=c)(w w1 w2:World)
  (hov:∀lb cb,(callFunc 227 #[.slice (some ad) m vc,.slice (some ⟨g,(i+m)*15,none⟩) lb cb]).run Tryz.prog w= .ok (.value (.bool false)) w)
  (h1:∀ty dc sc,(Builtin.copy_ #[34,34] ty #[.slice (some ⟨g,(i+m)*15,none⟩) (n+m - (i+m)) dc,.slice (some ⟨g,i*15,none⟩) (n+m - i) sc]).run Tryz.prog w.drew= .ok (goInt (n - i:Nat)) w1)
  (h2:∀ty dc,(Builtin.copy_ #[34,34] ty #[.slice (some ⟨g,i*15,none⟩) (n+m - i) dc,.slice (some ad) m vc]).run Tryz.prog w1= .ok (goInt m) w2):
  Calls Tryz.prog 177 #[.slice (some ⟨g,0,none⟩) n c,.int .i64 i,.slice (some ad) m vc] w fun e w'=>e= .returned (.slice (some ⟨g,0,none⟩) (n+m) c)/\w'=w2:=by
 have zE:=zE;have uS:=run_underlying Tryz.underlying34;have hz1:¬((m:Int)=0):=by omega
 have hz2:¬((i:Int)=(n:Int)):=by omega
 have mixed:Tryz.prog.follows .mixedOrders=true:=by kernel_rfl
 have hw1:IntKind.i64.wrap ((i:Int)+(m:Int))=(i:Int)+(m:Int):=by rw[IntKind.wrap_i64];omega
 have hb1:(0:Int)<=(i:Int)+(m:Int):=by omega
 have hin:i<=n:=by omega
 have htn:((i:Int)+(m:Int)).toNat=i+m:=by omega
 have hb2:¬(c=i+m):=by omega
 have hb3:(i:Int)<=(n:Int)+(m:Int):=by omega
 have hb4:¬(c=i):=by omega
 go_enter Tryz.func177,Tryz.ntmps177
 go_wp2_with (simp only[hov])
 go_region_law_o (refine step_copy_runI rfl _ _ 34 34 rfl _ _ (by simp[Act.eval,Act.put]) (by simp[Act.eval,Act.put]) (h1 _ _ _) ?_)
 go_wp2_with (at_builtin;refine wpList_copy_runI _ rfl _ _ 34 34 rfl _ _ rfl rfl (h2 _ _) ?_)
 go_ret
 exact⟨rfl,rfl⟩
set_option maxHeartbeats 4000000 in
set_option maxRecDepth 100000 in
theorem grow(g n c i:Nat)(hi:i<n)(hc:n<=c)(hc63:c<=9223372036854775807)(ad:Addr)(m vc:Nat)(hm:0<m)(hroom:c<n+m)(N G:Nat)(hGn:n+m<=G)(hG63:G<=9223372036854775807)(w w1 w2 w3:World)
  (hz:∀ty,(Builtin.append_ #[34,3] ty #[.slice (some ⟨g,0,none⟩) i c,.int .i64 ((n:Int)+(m:Int) - (i:Int))]).run Tryz.prog w= .ok (.slice (some ⟨N,0,none⟩) (n+m) G) w1)
  (h1:∀ty dc,(Builtin.copy_ #[34,34] ty #[.slice (some ⟨N,i*15,none⟩) (n+m - i) dc,.slice (some ad) m vc]).run Tryz.prog w1= .ok (goInt m) w2)
  (h2:∀ty dc sc,(Builtin.copy_ #[34,34] ty #[.slice (some ⟨N,(i+m)*15,none⟩) (n+m - (i+m)) dc,.slice (some ⟨g,i*15,none⟩) (n - i) sc]).run Tryz.prog w2.drew= .ok (goInt (n - i:Nat)) w3):
  Calls Tryz.prog 177 #[.slice (some ⟨g,0,none⟩) n c,.int .i64 i,.slice (some ad) m vc] w fun e w'=>e= .returned (.slice (some ⟨N,0,none⟩) (n+m) G)/\w'=w3:=by
 have zE:=zE;have uS:=run_underlying Tryz.underlying34;have hz1:¬((m:Int)=0):=by omega
 have hz2:¬((i:Int)=(n:Int)):=by omega
 have hz3:(c:Int)<(n:Int)+(m:Int):=by omega
 have mixed:Tryz.prog.follows .mixedOrders=true:=by kernel_rfl
 have hw1:IntKind.i64.wrap ((i:Int)+(m:Int))=(i:Int)+(m:Int):=by rw[IntKind.wrap_i64];omega
 have hb1:(0:Int)<=(i:Int)+(m:Int):=by omega
 have hin:i<=n:=by omega
 have htn:((i:Int)+(m:Int)).toNat=i+m:=by omega
 have hb3:(i:Int)<=(n:Int):=by omega
 have hGi:¬(G=i):=by omega
 have hGim:¬(G=i+m):=by omega
 have hci:¬(c=i):=by omega
 go_enter Tryz.func177,Tryz.ntmps177
 go_wp2_with (first
  |(at_builtin;refine Lib.wpList_append_run _ rfl _ _ _ _ rfl _ _ rfl rfl _ _ (hz _) ?_)
  |(at_builtin;refine wpList_copy_runI _ rfl _ _ 34 34 rfl _ _ rfl rfl (h1 _ _) ?_))
 go_region_law_o (refine step_copy_runI rfl _ _ 34 34 rfl (.slice (some ⟨N,(i+m)*15,none⟩) (n+m - (i+m)) (G - (i+m))) (.slice (some ⟨g,i*15,none⟩) (n - i) (c - i)) (by simp[Act.eval,Act.put]) (by simp[Act.eval,Act.put]) (h2 3 (G - (i+m)) (c - i)) ?_)
 go_wp2
 go_ret
 exact⟨rfl,rfl⟩
theorem ways:Sf Tryz.prog 177 34 64 3 4 227 15 176 where
 UY:=by decide
 hS:=Tryz.underlying34
 hI:=Tryz.underlying3
 U0:=MO (by kernel_rfl)
 An:=fun x w h=>by
  rw[run_callFunc_extern Tryz.func227 (by kernel_rfl) (by kernel_rfl) (by kernel_rfl) (e:=Extern.SlicesOverlaps.overlaps #[34,34] #[4]) (by kernel_rfl),h]
  rfl
 nV:=nV
 pS:=pS
 vz:=vz
 mh:=mh
 shift:=shift
 grow:=grow
theorem enters:Go.TQ.Enters Tryz.prog 177:=⟨Tryz.f177,Tryz.func177,by kernel_rfl,by kernel_rfl⟩
end acQ
end Go.Proofs.YtjbfdglebjnelaaGreat
namespace Go.Proofs.YtjbfdglebjnelaaGreat
open Go.RowKit Go.TQ Go.Lib
namespace Rc
theorem zE:∀w:World,(Go.sizeOf 9).run Tryz.prog w= .ok 1 w:=fun _=>by kernel_rfl
set_option maxHeartbeats 4000000 in
set_option maxRecDepth 100000 in
theorem nV(g n c i:Nat)(hi:i<=n)(hc:n<=c)(hc63:c<=9223372036854775807)(u:Option Addr)(vc:Nat)(w:World):
  Calls Tryz.prog 224 #[.slice (some ⟨g,0,none⟩) n c,.int .i64 i,.slice u 0 vc] w fun e w'=>e= .returned (.slice (some ⟨g,0,none⟩) n c)/\w'=w:=by
 have zE:=zE;have uS:=run_underlying Tryz.underlying28
 go_enter Tryz.func224,Tryz.ntmps224
 go_wp2
 all_goals go_ret
 all_goals exact⟨rfl,rfl⟩
set_option maxHeartbeats 4000000 in
set_option maxRecDepth 100000 in
theorem pS(u:Option Addr)(vc:Nat)(w:World):
  Calls Tryz.prog 224 #[.slice none 0 0,.int .i64 0,.slice u 0 vc] w fun e w'=>e= .returned (.slice none 0 0)/\w'=w:=by
 have zE:=zE;have uS:=run_underlying Tryz.underlying28
 go_enter Tryz.func224,Tryz.ntmps224
 go_wp2
 all_goals go_ret
 all_goals exact⟨rfl,rfl⟩
set_option maxHeartbeats 4000000 in
set_option maxRecDepth 100000 in
theorem vz(g n c:Nat)(hc:n<=c)(hc63:c<=9223372036854775807)(ad:Addr)(m vc:Nat)(hm:0<m)(w w1:World)(v1:Value)
  (hr:∀ty,(Builtin.append_ #[28,28] ty #[.slice (some ⟨g,0,none⟩) n c,.slice (some ad) m vc]).run Tryz.prog w= .ok v1 w1):
  Calls Tryz.prog 224 #[.slice (some ⟨g,0,none⟩) n c,.int .i64 n,.slice (some ad) m vc] w fun e w'=>e= .returned v1/\w'=w1:=by
 have zE:=zE;have uS:=run_underlying Tryz.underlying28;have hz1:¬((m:Int)=0):=by omega
 go_enter Tryz.func224,Tryz.ntmps224
 go_wp2_with (at_builtin;refine Lib.wpList_append_run _ rfl _ _ _ _ rfl _ _ rfl rfl _ _ (hr _) ?_)
 all_goals go_ret
 all_goals exact⟨rfl,rfl⟩
set_option maxHeartbeats 4000000 in
set_option maxRecDepth 100000 in
theorem mh(ad:Addr)(m vc:Nat)(hm:0<m)(w w1:World)(v1:Value)
  (hr:∀ty,(Builtin.append_ #[28,28] ty #[.slice none 0 0,.slice (some ad) m vc]).run Tryz.prog w= .ok v1 w1):
  Calls Tryz.prog 224 #[.slice none 0 0,.int .i64 0,.slice (some ad) m vc] w fun e w'=>e= .returned v1/\w'=w1:=by
 have zE:=zE;have uS:=run_underlying Tryz.underlying28;have hz1:¬((m:Int)=0):=by omega
 go_enter Tryz.func224,Tryz.ntmps224
 go_wp2_with (at_builtin;refine Lib.wpList_append_run _ rfl _ _ _ _ rfl _ _ rfl rfl _ _ (hr _) ?_)
 all_goals go_ret
 all_goals exact⟨rfl,rfl⟩
set_option maxHeartbeats 4000000 in
set_option maxRecDepth 100000 in
theorem shift(g n c i:Nat)(hi:i<n)(hc63:c<=9223372036854775807)(ad:Addr)(m vc:Nat)(hm:0<m)(hroom:n+m<=c)(w w1 w2:World)
  (hov:∀lb cb,(callFunc 257 #[.slice (some ad) m vc,.slice (some ⟨g,(i+m)*1,none⟩) lb cb]).run Tryz.prog w= .ok (.value (.bool false)) w)
  (h1:∀ty dc sc,(Builtin.copy_ #[28,28] ty #[.slice (some ⟨g,(i+m)*1,none⟩) (n+m - (i+m)) dc,.slice (some ⟨g,i*1,none⟩) (n+m - i) sc]).run Tryz.prog w.drew= .ok (goInt (n - i:Nat)) w1)
  (h2:∀ty dc,(Builtin.copy_ #[28,28] ty #[.slice (some ⟨g,i*1,none⟩) (n+m - i) dc,.slice (some ad) m vc]).run Tryz.prog w1= .ok (goInt m) w2):
  Calls Tryz.prog 224 #[.slice (some ⟨g,0,none⟩) n c,.int .i64 i,.slice (some ad) m vc] w fun e w'=>e= .returned (.slice (some ⟨g,0,none⟩) (n+m) c)/\w'=w2:=by
 have zE:=zE;have uS:=run_underlying Tryz.underlying28;have hz1:¬((m:Int)=0):=by omega
 have hz2:¬((i:Int)=(n:Int)):=by omega
 have mixed:Tryz.prog.follows .mixedOrders=true:=by kernel_rfl
 have hw1:IntKind.i64.wrap ((i:Int)+(m:Int))=(i:Int)+(m:Int):=by rw[IntKind.wrap_i64];omega
 have hb1:(0:Int)<=(i:Int)+(m:Int):=by omega
 have hin:i<=n:=by omega
 have htn:((i:Int)+(m:Int)).toNat=i+m:=by omega
 have hb2:¬(c=i+m):=by omega
 have hb3:(i:Int)<=(n:Int)+(m:Int):=by omega
 have hb4:¬(c=i):=by omega
 simp only[Nat.mul_one]at hov h1 h2
 go_enter Tryz.func224,Tryz.ntmps224
 go_wp2_with (simp only[hov])
 go_region_law_o (refine step_copy_runI rfl _ _ 28 28 rfl _ _ (by simp[Act.eval,Act.put]) (by simp[Act.eval,Act.put]) (h1 _ _ _) ?_)
 go_wp2_with (at_builtin;refine wpList_copy_runI _ rfl _ _ 28 28 rfl _ _ rfl rfl (h2 _ _) ?_)
 go_ret
 exact⟨rfl,rfl⟩
set_option maxHeartbeats 4000000 in
set_option maxRecDepth 100000 in
theorem grow(g n c i:Nat)(hi:i<n)(hc:n<=c)(hc63:c<=9223372036854775807)(ad:Addr)(m vc:Nat)(hm:0<m)(hroom:c<n+m)(N G:Nat)(hGn:n+m<=G)(hG63:G<=9223372036854775807)(w w1 w2 w3:World)
  (hz:∀ty,(Builtin.append_ #[28,3] ty #[.slice (some ⟨g,0,none⟩) i c,.int .i64 ((n:Int)+(m:Int) - (i:Int))]).run Tryz.prog w= .ok (.slice (some ⟨N,0,none⟩) (n+m) G) w1)
  (h1:∀ty dc,(Builtin.copy_ #[28,28] ty #[.slice (some ⟨N,i*1,none⟩) (n+m - i) dc,.slice (some ad) m vc]).run Tryz.prog w1= .ok (goInt m) w2)
  (h2:∀ty dc sc,(Builtin.copy_ #[28,28] ty #[.slice (some ⟨N,(i+m)*1,none⟩) (n+m - (i+m)) dc,.slice (some ⟨g,i*1,none⟩) (n - i) sc]).run Tryz.prog w2.drew= .ok (goInt (n - i:Nat)) w3):
  Calls Tryz.prog 224 #[.slice (some ⟨g,0,none⟩) n c,.int .i64 i,.slice (some ad) m vc] w fun e w'=>e= .returned (.slice (some ⟨N,0,none⟩) (n+m) G)/\w'=w3:=by
 have zE:=zE;have uS:=run_underlying Tryz.underlying28;have hz1:¬((m:Int)=0):=by omega
 have hz2:¬((i:Int)=(n:Int)):=by omega
 have hz3:(c:Int)<(n:Int)+(m:Int):=by omega
 have mixed:Tryz.prog.follows .mixedOrders=true:=by kernel_rfl
 have hw1:IntKind.i64.wrap ((i:Int)+(m:Int))=(i:Int)+(m:Int):=by rw[IntKind.wrap_i64];omega
 have hb1:(0:Int)<=(i:Int)+(m:Int):=by omega
 have hin:i<=n:=by omega
 have htn:((i:Int)+(m:Int)).toNat=i+m:=by omega
 have hb3:(i:Int)<=(n:Int):=by omega
 have hGi:¬(G=i):=by omega
 have hGim:¬(G=i+m):=by omega
 have hci:¬(c=i):=by omega
 simp only[Nat.mul_one]at h1 h2
 go_enter Tryz.func224,Tryz.ntmps224
 go_wp2_with (first
  |(at_builtin;refine Lib.wpList_append_run _ rfl _ _ _ _ rfl _ _ rfl rfl _ _ (hz _) ?_)
  |(at_builtin;refine wpList_copy_runI _ rfl _ _ 28 28 rfl _ _ rfl rfl (h1 _ _) ?_))
 go_region_law_o (refine step_copy_runI rfl _ _ 28 28 rfl (.slice (some ⟨N,i+m,none⟩) (n+m - (i+m)) (G - (i+m))) (.slice (some ⟨g,i,none⟩) (n - i) (c - i)) (by simp[Act.eval,Act.put]) (by simp[Act.eval,Act.put]) (h2 3 (G - (i+m)) (c - i)) ?_)
 go_wp2
 go_ret
 exact⟨rfl,rfl⟩
theorem ways:Sf Tryz.prog 224 28 9 3 4 257 1 16 where
 UY:=by decide
 hS:=Tryz.underlying28
 hI:=Tryz.underlying3
 U0:=MO (by kernel_rfl)
 An:=fun x w h=>by
  rw[run_callFunc_extern Tryz.func257 (by kernel_rfl) (by kernel_rfl) (by kernel_rfl) (e:=Extern.SlicesOverlaps.overlaps #[28,28] #[4]) (by kernel_rfl),h]
  rfl
 nV:=nV
 pS:=pS
 vz:=vz
 mh:=mh
 shift:=shift
 grow:=grow
theorem enters:Go.TQ.Enters Tryz.prog 224:=⟨Tryz.f224,Tryz.func224,by kernel_rfl,by kernel_rfl⟩
end Rc
end Go.Proofs.YtjbfdglebjnelaaGreat
end
noncomputable section
namespace Go.TQ
section
open Go.Proofs Go.Sort Go.RowKit Go.Lib
def xt:PV->Bool
 | .int _ _=>true
 | .str _=>true
 | .bool _=>true
 |_=>false
def pc:PV->Value
 | .int k n=> .int k n
 | .str s=> .string s
 | .bool b=> .bool b
 |_=>undef
theorem Gj{w:World}{M:Nat->Prop}{G:Gh}{x:PV}(h:xt x=true):bg w M G x (pc x):=by
 cases x<;>first|exact .int _ _|exact .str _|exact .bool _|exact absurd h (by simp[xt])
theorem Wi{w:World}{M:Nat->Prop}{G:Gh}{x:PV}{v:Value}(h:xt x=true)(hr:bg w M G x v):v=pc x:=by
 cases x<;>first|(cases hr;rfl)|exact absurd h (by simp[xt])
theorem Nz{x:PV}(h:xt x=true):(pc x).oneCell'=true:=by
 cases x<;>first|rfl|exact absurd h (by simp[xt])
theorem KA{w:World}{M:Nat->Prop}{G:Gh}:∀{xs:List PV} {vs:List Value},xs.all xt=true->bf w M G xs vs->vs=xs.map pc
 |[],vs,_,hr=>hr.nY
 |x::xs,vs,h,hr=>by
  obtain⟨v,vs',rfl,r1,r2⟩:=hr.cons_inv;rw[Qq70,Qm]at h;rw[QD,<-Wi h.1 r1,<-KA h.2 r2]
theorem Kz{w:World}{M:Nat->Prop}{G:Gh}:∀{xs:List PV},xs.all xt=true->bf w M G xs (xs.map pc)
 |[],_=> .nil
 |x::xs,h=>by
  rw[Qq70,Qm]at h;exact .cons (Gj h.1) (Kz h.2)
theorem abi{w w':World}(h:Fr none w w'):∃q os,w'=grow (w.drewN q) os:=by
 refine⟨w'.drawn - w.drawn,w'.heap.extract w.heap.size w'.heap.size,?_⟩;have hs:=h.size
 have hh:w'.heap=w.heap++w'.heap.extract w.heap.size w'.heap.size:=by
  apply Array.ext_getElem?;intro k;rw[Array.getElem?_append];split
  ·rename_i hk;exact h.block k hk (by simp)
  ·rename_i hk;rw[Array.getElem?_extract];split
   ·rw[show w.heap.size+(k - w.heap.size)=k by omega]
   ·exact Array.getElem?_eq_none (by omega)
 have h1:=h.os;have h2:=h.tape;have h3:=h.output;have h4:=h.drawn
 cases w' with|mk hp tp dr os out=>
 cases w with|mk hp' tp' dr' os' out'=>
 simp only at h1 h2 h3 h4 hh;subst h1 h2 h3;unfold grow World.drewN;simp only;rw[<-hh,show dr'+(dr - dr')=dr by omega]
theorem PC{w:World}{b n:Nat}{F:Array Value}{os:Array Obj}{cur:Array Value}{e:TypeId}{fr:Nat×Nat}(hb:w.heap[b]?=some (.cells cur e fr)):
  (grow (putRow id (Sort.ahead w n) b 0 F) os).heap[b]?=some (.cells (putCells id 0 F cur) e fr):=by
 have hlt:b<w.heap.size:=(Q9.1 hb).1;unfold grow putRow mapBlock Sort.ahead;simp only;rw[Array.getElem?_append_left (by simp;exact hlt),Array.getElem?_modify,Qr rfl,hb]
 rfl
theorem Wf{w:World}{b n:Nat}{F:Array Value}{os:Array Obj}:Fr (some b) w (grow (putRow id (Sort.ahead w n) b 0 F) os):=by
 refine⟨rfl,rfl,rfl,?_,fun q hq hne=> ?_,Nat.le_add_right _ _⟩
 ·unfold grow putRow mapBlock Sort.ahead;simp only[Array.size_append,Array.size_modify];omega
 ·have hqb:¬b=q:=fun e=>hne (by rw[e])
  unfold grow putRow mapBlock Sort.ahead;simp only;rw[Array.getElem?_append_left (by simp;exact hq),Array.getElem?_modify,Qs hqb]
theorem Nv{F cur:Array Value}(h:F.size<=cur.size):(putCells id 0 F cur).toList=F.toList++cur.toList.drop F.size:=by
 apply List.ext_getElem?;intro i;rw[Array.getElem?_toList];unfold putCells;rw[Array.getElem?_mapIdx,List.getElem?_append];simp only[Array.length_toList,QS,true_and,Nat.zero_add,Nat.sub_zero,id]
 by_cases hi:i<F.size
 ·rw[Qr hi,Array.getElem?_toList,Array.getElem?_eq_getElem (show i<cur.size by omega),Array.getElem?_eq_getElem hi,Qe,Qr hi,getElem!_pos F i hi]
 ·rw[Qs hi,List.getElem?_drop,Array.getElem?_toList,show F.size+(i - F.size)=i by omega]
  cases cur[i]? with
  |none=>rfl
  |some y=>rw[Qe,Qs hi]
def Sa(P:Program)(f k:Nat):Prop:=∀(α:Type) [Inhabited α] (dS:α->List Value) (_:∀x,(dS x).length=k) (_:∀x,∀v∈dS x,v.oneCell'=true) (cf:α->α->Int) (_:Go.Sort.SWO (ltOf cf)) (g:Nat) (cb:Array Value) (cq off cap:Nat) (d:Array α) (w:World)
  (_:∀args w,(callFunc g args).run P w= .ok (.enter g args) w) (_:CmpLays P g cb dS k cf cq off d.size w) (_:HoldsK dS k w cq off d) (_:cq<w.heap.size) (_:d.size<4611686018427387904) (_:∀x y,(ltOf cf) x y=false->(ltOf cf) y x=false->x=y),
  Calls P f #[.slice (some ⟨cq,off,none⟩) d.size cap,.func (.func g) #[] cb] w fun e w'=>
   e= .returned (.tuple #[])/\∃n os,w'=sortWorldK dS k w cq off n (d.toList.mergeSort fun x y=> !(ltOf cf) y x).toArray os
def L8(P:Program)(f:Nat):Prop:=∀(α:Type) [Inhabited α] (dS:α->Value) (_:OneCell dS) (cf:α->α->Int) (_:Go.Sort.SWO (ltOf cf)) (g:Nat) (cb:Array Value) (cq off cap:Nat) (d:Array α) (w:World)
  (_:∀args w,(callFunc g args).run P w= .ok (.enter g args) w) (_:CmpLays1 P g cb dS cf cq off d.size w) (_:Holds dS w cq off d) (_:cq<w.heap.size) (_:d.size<4611686018427387904) (_:∀x y,(ltOf cf) x y=false->(ltOf cf) y x=false->x=y),
  Calls P f #[.slice (some ⟨cq,off,none⟩) d.size cap,.func (.func g) #[] cb] w fun e w'=>
   e= .returned (.tuple #[])/\∃n os,w'=sortWorld dS w cq off n (d.toList.mergeSort fun x y=> !(ltOf cf) y x).toArray os
def Hc(P:Program)(f:Nat):Prop:=∀(p:Option Addr) (cap:Nat) (fv:Value) (w:World),Calls P f #[.slice p 0 cap,fv] w fun e w'=>e= .returned (.tuple #[])/\w'=w
section
variable {P : Program} {α : Type} [Inhabited α] {pv : α -> List PV} {k : Nat}
def oT(pv:α->List PV)(x:α):List Value:=(pv x).map pc
def R9(P:Program)(f g e k:Nat)(pv:α->List PV)(le:α->α->Bool):Prop:=
 ∀(w:World) (b cap:Nat) (xs:List α) (cur:Array Value),w.heap[b]?=some (.cells cur e (0,0))->xs.length<4611686018427387904->xs.length<=cap->cap<=maxLen->cur.size=cap*k->cur.toList.take (xs.length*k)=xs.flatMap (oT pv)->
  Calls P f #[.slice (some ⟨b,0,none⟩) xs.length cap,.func (.func g) #[] #[]] w fun en w'=>en= .returned (.tuple #[])/\
   ∃cur':Array Value,w'.heap[b]?=some (.cells cur' e (0,0))/\cur'.size=cur.size/\cur'.toList.take (xs.length*k)=(xs.mergeSort le).flatMap (oT pv)/\Fr (some b) w w'
theorem N0(hk:∀x,(pv x).length=k):∀xs:List α,(xs.flatMap (oT pv)).length=xs.length*k
 |[]=>by simp
 |x::xs=>by rw[List.flatMap_cons,QB,N0 hk xs,oT,QC,hk,QE,Qq73,Nat.one_mul,Nat.add_comm]
theorem Tb{f g e:Nat}{le:α->α->Bool}(h0:Hc P f)(hs:R9 P f g e k pv le)(hk0:0<k)(hk:∀x,(pv x).length=k)(hp:∀x,(pv x).all xt=true)(xs:List α)(hsx:xs.length<4611686018427387904):
  VI P f e k (xs.map pv) [.bG g []] (.dO []) ((xs.mergeSort le).map pv):=by
 intro w X hX v vs hvX ⟨us,hown,hke,hr⟩ hargs;obtain⟨a1,args,rfl,ha1,hargs⟩:=hargs.cons_inv;obtain rfl:=hargs.nY;obtain⟨cs,rfl,hcs⟩:=ha1.w7;obtain rfl:=hcs.nY
 have hflat:∀l:List α,(l.map pv).flatten.map pc=l.flatMap (oT pv):=fun l=>by
  induction l with
  |nil=>rfl
  |cons x l ih=>rw[QD,List.flatten_cons,List.map_append,ih,List.flatMap_cons];rfl
 have hplain:∀l:List α,(l.map pv).flatten.all xt=true:=fun l=>by
  induction l with
  |nil=>rfl
  |cons x l ih=>rw[QD,List.flatten_cons,List.all_append,ih,hp x];rfl
 have hus:us=xs.flatMap (oT pv):=by rw[KA (hplain xs) hr,hflat]
 have hms:(xs.mergeSort le).length=xs.length:=List.length_mergeSort xs
 have hkm:∀l:List α,∀u∈l.map pv,u.length=k:=fun l u hu=>by
  obtain⟨x,_,rfl⟩:=QP.1 hu;exact hk x
 have hlen:(xs.map pv).length=xs.length:=QC ..;have hlen2:((xs.mergeSort le).map pv).length=xs.length:=by rw[QC,hms]
 rw[hlen]at hown
 have hrep:∀w':World,bf w' (Mv v X) dj ((xs.mergeSort le).map pv).flatten ((xs.mergeSort le).flatMap (oT pv)):=fun w'=>by
  rw[<-hflat];exact Kz (hplain _)
 by_cases hx:xs=[]
 ·
  subst hx
  have hv:∃p cap,v= .slice p 0 cap:=by
   rcases hown.2 with⟨h1,_⟩|⟨b,cap,cur,h1,_⟩
   ·exact⟨none,0,h1⟩
   ·exact⟨_,cap,h1⟩
  obtain⟨p,cap,hv⟩:=hv;have:=h0 p cap (.func (.func g) #[] [].toArray) w;rw[<-hv]at this;refine this.mono fun en w' ⟨h1,h2⟩=> ?_
  subst h2;refine⟨_,h1,.dO _ [] rfl (fun i x v h=>by simp at h),⟨us,?_,hkm _,?_⟩,Fr.refl _ _⟩
  ·rw[hlen2];exact hown
  ·rw[hus];have:=hrep w';rw[show([]:List α).mergeSort le=[]from by simp]at this ⊢
   exact this
 ·rcases hown.2 with⟨_,h2⟩|⟨b,cap,cur,rfl,hbase,hb,hn,hcap,hsz,htake⟩
  ·exact absurd (Qq67 h2) hx
  ·refine(hs w b cap xs cur hb hsx hn hcap hsz (by rw[htake,hus])).mono fun en w' ⟨h1,cur',h2,h3,h4,h5⟩=> ?_
   refine⟨_,h1,.dO _ [] rfl (fun i x v h=>by simp at h),⟨(xs.mergeSort le).flatMap (oT pv),⟨?_,.inr ⟨b,cap,cur',by rw[hlen2],hbase,h2,by rw[hlen2];exact hn,hcap,by rw[h3];exact hsz,?_⟩⟩,hkm _,hrep w'⟩,h5⟩
   ·rw[N0 hk,hms,hlen2]
   ·rw[hlen2];exact h4
theorem IL{dS:α->List Value}(hk:∀x,(dS x).length=k)(hk0:0<k):∀(l:List α) (t:Nat),t<l.length*k->(l.flatMap dS)[t]?=(dS l[t / k]!)[t % k]?
 |[],t,h=>by simp at h
 |x::l,t,h=>by
  rw[List.flatMap_cons]
  by_cases ht:t<k
  ·rw[List.getElem?_append_left (by rw[hk];exact ht),Nat.div_eq_of_lt ht,Nat.mod_eq_of_lt ht]
   rfl
  ·rw[List.getElem?_append_right (by rw[hk];omega),hk]
   have hl:t - k<l.length*k:=by rw[QE,Qq73,Nat.one_mul]at h;omega
   rw[IL hk hk0 l (t - k) hl,Nat.mod_eq_sub_mod (by omega:t>=k),show t / k=(t - k) / k+1 from Nat.div_eq_sub_div hk0 (by omega)]
   simp
theorem U5{dS:α->List Value}(hk:∀x,(dS x).length=k)(hk0:0<k)(l:List α):(flatK dS k l.toArray).toList=l.flatMap dS:=by
 have hlen:(l.flatMap dS).length=l.length*k:=by
  induction l with
  |nil=>simp
  |cons x l ih=>rw[List.flatMap_cons,QB,ih,hk,QE,Qq73,Nat.one_mul,Nat.add_comm]
 apply List.ext_getElem?;intro t
 by_cases ht:t<l.length*k
 ·rw[IL hk hk0 l t ht];have hm:t % k<(dS l[t / k]!).length:=by rw[hk];exact Nat.mod_lt _ hk0
  rw[Qv hm];unfold flatK;simp only[Array.toList_map,Array.toList_range,QT,List.size_toArray];rw[List.getElem?_range ht];simp only[Qe];congr 1;rw[show(l.toArray)[t / k]! =l[t / k]! by simp]
  exact getElem!_pos (dS l[t / k]!) (t % k) hm
 ·rw[Qq72 (by rw[Array.length_toList,size_flatK,List.size_toArray];omega),Qq72 (by omega)]
def Zk(P:Program)(g:Nat)(val:α->Value)(cf:α->α->Int):Prop:=∀(x y:α) (w:World),Calls P g #[val x,val y] w fun e w'=>e= .returned (.int .i64 (cf x y))/\∃q os,w'=grow (w.drewN q) os
theorem Lj{w:World}{b e cap:Nat}{xs:List α}{cur:Array Value}{F:Array Value}(hb:w.heap[b]?=some (.cells cur e (0,0)))(hF:F.toList=cur.toList.take F.size):Holds id w b 0 F:=by
 intro j hj
 have hc:cur[j]?=some F[j]:=by
  have h1:F.toList[j]?=some F[j]:=by rw[Array.getElem?_toList];exact Array.getElem?_eq_getElem hj
  rw[hF,Qq68,Qr hj,Array.getElem?_toList]at h1;exact h1
 rw[getElem!_pos F j hj];refine⟨?_,?_⟩
 ·unfold World.cell?;simp only[Nat.zero_add,hb];simpa using hc
 ·unfold World.frozen?;simp only[hb];simp
theorem ae7{f g e:Nat}{cf:α->α->Int}(hS:Sa P f k)(hk0:0<k)(hk:∀x,(pv x).length=k)(hp:∀x,(pv x).all xt=true)(hO:Go.Sort.SWO (ltOf cf))(hT:∀x y,(ltOf cf) x y=false->(ltOf cf) y x=false->x=y)
  (eg:∀args w,(callFunc g args).run P w= .ok (.enter g args) w) (hc:Zk P g (fun x=> .agg (oT pv x).toArray) cf):R9 P f g e k pv fun x y=> !(ltOf cf) y x:=by
 intro w b cap xs cur hb hsx hn hcap hsz htake;have hlt:b<w.heap.size:=(Q9.1 hb).1;have hkE:∀x,(oT pv x).length=k:=fun x=>by rw[oT,QC,hk]
 have hflat:∀l:List α,(flatK (oT pv) k l.toArray).toList=l.flatMap (oT pv):=U5 hkE hk0;have hcs:CmpLays P g #[] (oT pv) k cf b 0 xs.toArray.size w:=fun m os dk _ x y=>hc x y _
 have hH:HoldsK (oT pv) k w b 0 xs.toArray:=Lj (xs:=xs) (cap:=cap) hb (by rw[hflat,size_flatK,List.size_toArray];exact htake.symm)
 have:=hS α (oT pv) hkE (fun x v hv=>by obtain⟨y,hy,rfl⟩:=QP.1 hv;exact Nz (QH.1 (hp x) y hy)) cf hO g #[] b 0 cap xs.toArray w eg hcs hH hlt (by rw[List.size_toArray];exact hsx) hT
 refine this.mono fun en w' ⟨h1,n,os,h2⟩=>⟨h1,?_⟩
 have hms:(xs.mergeSort fun x y=> !(ltOf cf) y x).length=xs.length:=List.length_mergeSort xs
 have hFs:(flatK (oT pv) k (xs.mergeSort fun x y=> !(ltOf cf) y x).toArray).size=xs.length*k:=by rw[size_flatK,List.size_toArray,hms]
 have hFc:(flatK (oT pv) k (xs.mergeSort fun x y=> !(ltOf cf) y x).toArray).size<=cur.size:=by rw[hFs,hsz];exact Qq63 k hn
 subst h2;refine⟨_,PC hb,by unfold putCells;rw[Array.size_mapIdx],?_,Wf⟩
 rw[Nv hFc,<-hFs,<-Array.length_toList,List.take_left,hflat]
theorem ae8{f g e:Nat}{cf:α->α->Int}{p1:α->PV}(hS:L8 P f)(hp:∀x,xt (p1 x)=true)(hO:Go.Sort.SWO (ltOf cf))(hT:∀x y,(ltOf cf) x y=false->(ltOf cf) y x=false->x=y)
  (eg:∀args w,(callFunc g args).run P w= .ok (.enter g args) w) (hc:Zk P g (fun x=>pc (p1 x)) cf):R9 P f g e 1 (fun x=>[p1 x]) fun x y=> !(ltOf cf) y x:=by
 intro w b cap xs cur hb hsx hn hcap hsz htake;have hlt:b<w.heap.size:=(Q9.1 hb).1
 have hflat:∀l:List α,(l.toArray.map fun x=>pc (p1 x)).toList=l.flatMap (oT fun x=>[p1 x]):=fun l=>by
  induction l with
  |nil=>simp
  |cons x l ih=>
   rw[List.flatMap_cons,<-ih];simp[oT]
 have hcs:CmpLays1 P g #[] (fun x=>pc (p1 x)) cf b 0 xs.toArray.size w:=fun m os dk _ x y=>hc x y _
 have hF:=Lj (xs:=xs) (cap:=cap) (F:=xs.toArray.map fun x=>pc (p1 x)) hb (by rw[hflat,Array.size_map,List.size_toArray,<-Nat.mul_one xs.length];exact htake.symm)
 have hH:Holds (fun x=>pc (p1 x)) w b 0 xs.toArray:=by
  intro j hj;have h1:=hF j (by rw[Array.size_map];exact hj)
  rw[getElem!_pos _ j (by rw[Array.size_map];exact hj),Array.getElem_map]at h1
  rw[getElem!_pos _ j hj];exact h1
 have:=hS α (fun x=>pc (p1 x)) (fun x=>Nz (hp x)) cf hO g #[] b 0 cap xs.toArray w eg hcs hH hlt (by rw[List.size_toArray];exact hsx) hT
 refine this.mono fun en w' ⟨h1,n,os,h2⟩=>⟨h1,?_⟩
 have hms:(xs.mergeSort fun x y=> !(ltOf cf) y x).length=xs.length:=List.length_mergeSort xs
 have hput:∀(W:World) (d:Array α),putRow (fun x=>pc (p1 x)) W b 0 d=putRow id W b 0 (d.map fun x=>pc (p1 x)):=fun W d=>by
  unfold putRow;congr 1
  funext c
  unfold putCells;apply Array.ext_getElem?;intro i;simp only[Array.getElem?_mapIdx,Array.size_map,QS,true_and,Nat.zero_add,Nat.sub_zero,id]
  cases c[i]? with
  |none=>rfl
  |some y=>
   simp only[Qe]
   by_cases hi:i<d.size
   ·rw[Qr hi,Qr hi,getElem!_pos d i hi,getElem!_pos _ i (by rw[Array.size_map];exact hi),Array.getElem_map]
   ·rw[Qs hi,Qs hi]
 unfold sortWorld at h2;rw[hput]at h2;have hFs:((xs.mergeSort fun x y=> !(ltOf cf) y x).toArray.map fun x=>pc (p1 x)).size=xs.length*1:=by rw[Array.size_map,List.size_toArray,hms,Nat.mul_one]
 have hFc:((xs.mergeSort fun x y=> !(ltOf cf) y x).toArray.map fun x=>pc (p1 x)).size<=cur.size:=by rw[hFs,hsz];exact Qq63 1 hn
 subst h2;refine⟨_,PC hb,by unfold putCells;rw[Array.size_mapIdx],?_,Wf⟩
 rw[Nv hFc,<-hFs,<-Array.length_toList,List.take_left,hflat]
end
theorem TY{P:Program}{g:Nat}{α:Type}{va:α->PV}{val:α->Value}{cf:α->α->Int}(hval:∀(x:α) (w:World) (M:Nat->Prop),bg w M dj (va x) (val x))(h:∀x y,Con P g false [] [va x,va y] (.int .i64 (cf x y)) []):Zk P g val cf:=by
 intro x y w;have:=h x y w (fun _=>False) (fun b hb=>hb.elim) 0 0 [] [val x,val y] (fun e=>by cases e) (.cons (hval x w _) (.cons (hval y w _) .nil))
 refine this.mono fun en w' ⟨v,rvs,h1,h2,_,h4⟩=> ?_
 rw[h2.fG]at h1;exact⟨h1,abi h4⟩
end
section
open Go.Proofs Go.Sort
def G5{α:Type}(c:α->α->Option Int)(x y:α):Int:=(c x y).getD 0
structure ZU {α:Type} (c:α->α->Option Int):Prop where
 some:∀x y,c x y=some (G5 c x y)
 ord:Go.Sort.SWO (ltOf (G5 c))
 tot:∀x y,ltOf (G5 c) x y=false->ltOf (G5 c) y x=false->x=y
open Classical in
 def Aj{α:Type}(c:α->α->Option Int)(s:List α):Option (Unit×List α):=if ZU c/\s.length<4611686018427387904 then some ((),s.mergeSort fun x y=> !(ltOf (G5 c)) y x)else none
section
variable {P : Program} {f g e k : Nat} {T : Ty} {F : T.den × T.den × Unit -> Option Int} (hent : Enters P f) (h0 : Hc P f) (hgs : dV.Sound P (U := U) (.fn g [.ty T, .ty T] (.one (Ty.i .i64)) F)) (hi : Inhabited T.den) (hp : ∀ x : T.den, (T.pv x).all xt = true)
 include hent h0 hgs hi hp
theorem adM(hS:Sa P f k)(hk0:0<k)(hk:∀x:T.den,(T.pv x).length=k)(hv:∀x:T.den,dp (U:=U) T x= .agg (T.pv x)):
  dV.Sound P (U:=U) (.rw f e k T [.bG g []] (.many []) fun s a=>Aj (fun x y=>F (x,y,())) s):=by
 refine⟨hent,fun xs a r ys h=> ?_⟩
 have h:Aj (fun x y=>F (x,y,())) xs=some (r,ys):=h
 unfold Aj at h;split at h
 ·rename_i hc;injection h with h
  injection h with _ h2
  subst h2;refine Tb h0 (ae7 hS hk0 hk hp hc.1.ord hc.1.tot (fun args w=>qv hgs.1 args) ?_) hk0 hk hp xs hc.2
  refine TY (va:=fun x=> .agg (T.pv x)) (fun x w M=> .agg _ _ (by rw[oT,QC]) fun i y v h1 h2=> ?_) fun x y=> ?_
  ·rw[oT,QT,h1]at h2;injection h2 with h2
   rw[<-h2];exact Gj (QH.1 (hp x) y (Q8 h1))
  ·have:=hgs.2 (x,y,()) _ (hc.1.some x y);rw[show gP (U:=U) [.ty T,.ty T] (x,y,())=[.agg (T.pv x),.agg (T.pv y)]by rw[<-hv x,<-hv y];rfl]at this
   exact this
 ·cases h
theorem Ul(hS:L8 P f)(hv:∀x:T.den,T.pv x=[dp (U:=U) T x]):
  dV.Sound P (U:=U) (.rw f e 1 T [.bG g []] (.many []) fun s a=>Aj (fun x y=>F (x,y,())) s):=by
 refine⟨hent,fun xs a r ys h=> ?_⟩
 have h:Aj (fun x y=>F (x,y,())) xs=some (r,ys):=h
 unfold Aj at h;split at h
 ·rename_i hc;injection h with h
  injection h with _ h2
  subst h2;have hp1:∀x:T.den,xt (dp (U:=U) T x)=true:=fun x=>by have:=hp x;rw[hv x]at this;simpa using this
  have hpv:(fun x:T.den=>T.pv x)=fun x=>[dp (U:=U) T x]:=funext hv
  have:=Tb (pv:=fun x:T.den=>[dp (U:=U) T x]) (e:=e) h0 (ae8 hS hp1 hc.1.ord hc.1.tot (fun args w=>qv hgs.1 args) (TY (va:=fun x=>dp (U:=U) T x) (fun x w M=>Gj (hp1 x)) fun x y=>hgs.2 (x,y,()) _ (hc.1.some x y))) (by omega) (fun x=>rfl) (fun x=>by simpa using hp1 x) xs hc.2
  rw[<-hpv]at this;exact this
 ·cases h
end
end
end Go.TQ
end
noncomputable section
namespace Go.Proofs
open Go.Shelf
def D5:Go.Shelf.Ren:=⟨fun|6=>251|15=>288|14=>287|28=>327|29=>328|20=>319|21=>320|22=>321|23=>322|24=>323|25=>324|26=>325|27=>326|46=>353|47=>354|48=>355|49=>356|50=>357|57=>377|n=>n,fun|22=>28|24=>9|25=>97|3=>3|39=>160|0=>0|53=>229|55=>256|4=>4|46=>271|45=>270|50=>125|5=>5|9=>9|66=>292|70=>296|76=>308|77=>148|n=>n,fun|n=>n⟩
theorem L6:Go.Proofs.SlLaysF.n6 Tryz.prog D5:={
 mixed:=by kernel_rfl
 f6:=⟨Tryz.f251.name,by decide,Tryz.func251.trans (congrArg some (by kernel_rfl))⟩
 f14:=⟨Tryz.f287.name,by decide,Tryz.func287.trans (congrArg some (by kernel_rfl))⟩
 f15:=Tryz.func288.trans (congrArg some (by kernel_rfl))
 f20:=⟨Tryz.f319.name,by decide,Tryz.func319.trans (congrArg some (by kernel_rfl))⟩
 f21:=⟨Tryz.f320.name,by decide,Tryz.func320.trans (congrArg some (by kernel_rfl))⟩
 f22:=⟨Tryz.f321.name,by decide,Tryz.func321.trans (congrArg some (by kernel_rfl))⟩
 f23:=⟨Tryz.f322.name,by decide,Tryz.func322.trans (congrArg some (by kernel_rfl))⟩
 f24:=⟨Tryz.f323.name,by decide,Tryz.func323.trans (congrArg some (by kernel_rfl))⟩
 f25:=⟨Tryz.f324.name,by decide,Tryz.func324.trans (congrArg some (by kernel_rfl))⟩
 f26:=⟨Tryz.f325.name,by decide,Tryz.func325.trans (congrArg some (by kernel_rfl))⟩
 f27:=⟨Tryz.f326.name,by decide,Tryz.func326.trans (congrArg some (by kernel_rfl))⟩
 f28:=Tryz.func327.trans (congrArg some (by kernel_rfl))
 f29:=Tryz.func328.trans (congrArg some (by kernel_rfl))
 f46:=⟨Tryz.f353.name,by decide,Tryz.func353.trans (congrArg some (by kernel_rfl))⟩
 f47:=Tryz.func354.trans (congrArg some (by kernel_rfl))
 f48:=Tryz.func355.trans (congrArg some (by kernel_rfl))
 f49:=⟨Tryz.f356.name,by decide,Tryz.func356.trans (congrArg some (by kernel_rfl))⟩
 f50:=⟨Tryz.f357.name,by decide,Tryz.func357.trans (congrArg some (by kernel_rfl))⟩
 f57:=⟨Tryz.f377.name,by decide,Tryz.func377.trans (congrArg some (by kernel_rfl))⟩
 t0:=Tryz.underlying0
 a0:=Tryz.isAgg0
 z0:=Tryz.sizeOf0
 v0:=Tryz.zeroValue0
 t3:=Tryz.underlying3
 a3:=Tryz.isAgg3
 z3:=Tryz.sizeOf3
 v3:=Tryz.zeroValue3
 t4:=Tryz.underlying4
 a4:=Tryz.isAgg4
 z4:=Tryz.sizeOf4
 v4:=Tryz.zeroValue4
 t5:=Tryz.underlying5
 a5:=Tryz.isAgg5
 z5:=Tryz.sizeOf5
 v5:=Tryz.zeroValue5
 t9:=Tryz.underlying9
 a9:=Tryz.isAgg9
 z9:=Tryz.sizeOf9
 v9:=Tryz.zeroValue9
 t22:=Tryz.underlying28
 a22:=Tryz.isAgg28
 z22:=Tryz.sizeOf28
 v22:=Tryz.zeroValue28
 a24:=Tryz.isAgg9
 z24:=Tryz.sizeOf9
 t25:=Tryz.underlying97
 a25:=Tryz.isAgg97
 z25:=Tryz.sizeOf97
 v25:=Tryz.zeroValue97
 t39:=Tryz.underlying160
 a39:=Tryz.isAgg160
 z39:=Tryz.sizeOf160
 v39:=Tryz.zeroValue160
 t45:=Tryz.underlying270
 a45:=Tryz.isAgg270
 z45:=Tryz.sizeOf270
 v45:=Tryz.zeroValue270
 t46:=Tryz.underlying271
 a46:=Tryz.isAgg271
 z46:=Tryz.sizeOf271
 v46:=Tryz.zeroValue271
 t50:=Tryz.underlying125
 a50:=Tryz.isAgg125
 z50:=Tryz.sizeOf125
 v50:=Tryz.zeroValue125
 t53:=Tryz.underlying229
 a53:=Tryz.isAgg229
 z53:=Tryz.sizeOf229
 v53:=Tryz.zeroValue229
 t55:=Tryz.underlying256
 a55:=Tryz.isAgg256
 z55:=Tryz.sizeOf256
 v55:=Tryz.zeroValue256
 t66:=Tryz.underlying292
 a66:=Tryz.isAgg292
 z66:=Tryz.sizeOf292
 v66:=Tryz.zeroValue292
 t70:=Tryz.underlying296
 a70:=Tryz.isAgg296
 z70:=Tryz.sizeOf296
 v70:=Tryz.zeroValue296
 t76:=Tryz.underlying308
 a76:=Tryz.isAgg308
 z76:=Tryz.sizeOf308
 v76:=Tryz.zeroValue308
 t77:=Tryz.underlying148
 a77:=Tryz.isAgg148
 z77:=Tryz.sizeOf148
 v77:=Tryz.zeroValue148}
def M4:Go.Shelf.Ren:=⟨fun|6=>378|15=>288|14=>387|28=>327|29=>328|20=>389|21=>390|22=>391|23=>392|24=>393|25=>394|26=>395|27=>396|46=>405|47=>354|48=>355|49=>406|50=>407|57=>411|n=>n,fun|22=>180|24=>33|25=>217|3=>3|39=>160|0=>0|53=>229|55=>256|4=>4|46=>271|45=>270|50=>125|5=>5|9=>9|66=>292|70=>296|76=>308|77=>148|n=>n,fun|n=>n⟩
theorem L0:Go.Proofs.SlLaysF0.n6 Tryz.prog M4:={
 mixed:=by kernel_rfl
 f6:=⟨Tryz.f378.name,by decide,Tryz.func378.trans (congrArg some (by kernel_rfl))⟩
 f14:=⟨Tryz.f387.name,by decide,Tryz.func387.trans (congrArg some (by kernel_rfl))⟩
 f15:=Tryz.func288.trans (congrArg some (by kernel_rfl))
 f20:=⟨Tryz.f389.name,by decide,Tryz.func389.trans (congrArg some (by kernel_rfl))⟩
 f21:=⟨Tryz.f390.name,by decide,Tryz.func390.trans (congrArg some (by kernel_rfl))⟩
 f22:=⟨Tryz.f391.name,by decide,Tryz.func391.trans (congrArg some (by kernel_rfl))⟩
 f23:=⟨Tryz.f392.name,by decide,Tryz.func392.trans (congrArg some (by kernel_rfl))⟩
 f24:=⟨Tryz.f393.name,by decide,Tryz.func393.trans (congrArg some (by kernel_rfl))⟩
 f25:=⟨Tryz.f394.name,by decide,Tryz.func394.trans (congrArg some (by kernel_rfl))⟩
 f26:=⟨Tryz.f395.name,by decide,Tryz.func395.trans (congrArg some (by kernel_rfl))⟩
 f27:=⟨Tryz.f396.name,by decide,Tryz.func396.trans (congrArg some (by kernel_rfl))⟩
 f28:=Tryz.func327.trans (congrArg some (by kernel_rfl))
 f29:=Tryz.func328.trans (congrArg some (by kernel_rfl))
 f46:=⟨Tryz.f405.name,by decide,Tryz.func405.trans (congrArg some (by kernel_rfl))⟩
 f47:=Tryz.func354.trans (congrArg some (by kernel_rfl))
 f48:=Tryz.func355.trans (congrArg some (by kernel_rfl))
 f49:=⟨Tryz.f406.name,by decide,Tryz.func406.trans (congrArg some (by kernel_rfl))⟩
 f50:=⟨Tryz.f407.name,by decide,Tryz.func407.trans (congrArg some (by kernel_rfl))⟩
 f57:=⟨Tryz.f411.name,by decide,Tryz.func411.trans (congrArg some (by kernel_rfl))⟩
 t0:=Tryz.underlying0
 a0:=Tryz.isAgg0
 z0:=Tryz.sizeOf0
 v0:=Tryz.zeroValue0
 t3:=Tryz.underlying3
 a3:=Tryz.isAgg3
 z3:=Tryz.sizeOf3
 v3:=Tryz.zeroValue3
 t4:=Tryz.underlying4
 a4:=Tryz.isAgg4
 z4:=Tryz.sizeOf4
 v4:=Tryz.zeroValue4
 t5:=Tryz.underlying5
 a5:=Tryz.isAgg5
 z5:=Tryz.sizeOf5
 v5:=Tryz.zeroValue5
 t9:=Tryz.underlying9
 a9:=Tryz.isAgg9
 z9:=Tryz.sizeOf9
 v9:=Tryz.zeroValue9
 t22:=Tryz.underlying180
 a22:=Tryz.isAgg180
 z22:=Tryz.sizeOf180
 v22:=Tryz.zeroValue180
 t25:=Tryz.underlying217
 a25:=Tryz.isAgg217
 z25:=Tryz.sizeOf217
 v25:=Tryz.zeroValue217
 t39:=Tryz.underlying160
 a39:=Tryz.isAgg160
 z39:=Tryz.sizeOf160
 v39:=Tryz.zeroValue160
 t45:=Tryz.underlying270
 a45:=Tryz.isAgg270
 z45:=Tryz.sizeOf270
 v45:=Tryz.zeroValue270
 t46:=Tryz.underlying271
 a46:=Tryz.isAgg271
 z46:=Tryz.sizeOf271
 v46:=Tryz.zeroValue271
 t50:=Tryz.underlying125
 a50:=Tryz.isAgg125
 z50:=Tryz.sizeOf125
 v50:=Tryz.zeroValue125
 t53:=Tryz.underlying229
 a53:=Tryz.isAgg229
 z53:=Tryz.sizeOf229
 v53:=Tryz.zeroValue229
 t55:=Tryz.underlying256
 a55:=Tryz.isAgg256
 z55:=Tryz.sizeOf256
 v55:=Tryz.zeroValue256
 t66:=Tryz.underlying292
 a66:=Tryz.isAgg292
 z66:=Tryz.sizeOf292
 v66:=Tryz.zeroValue292
 t70:=Tryz.underlying296
 a70:=Tryz.isAgg296
 z70:=Tryz.sizeOf296
 v70:=Tryz.zeroValue296
 t76:=Tryz.underlying308
 a76:=Tryz.isAgg308
 z76:=Tryz.sizeOf308
 v76:=Tryz.zeroValue308
 t77:=Tryz.underlying148
 a77:=Tryz.isAgg148
 z77:=Tryz.sizeOf148
 v77:=Tryz.zeroValue148}
def D4:Go.Shelf.Ren:=⟨fun|6=>382|15=>288|14=>388|28=>327|29=>328|20=>397|21=>398|22=>399|23=>400|24=>401|25=>402|26=>403|27=>404|46=>408|47=>354|48=>355|49=>409|50=>410|57=>412|n=>n,fun|22=>22|24=>3|25=>59|3=>3|39=>160|0=>0|53=>229|55=>256|4=>4|46=>271|45=>270|50=>125|5=>5|9=>9|66=>292|70=>296|76=>308|77=>148|n=>n,fun|n=>n⟩
theorem LZ:Go.Proofs.SlLaysF.n6 Tryz.prog D4:={
 mixed:=by kernel_rfl
 f6:=⟨Tryz.f382.name,by decide,Tryz.func382.trans (congrArg some (by kernel_rfl))⟩
 f14:=⟨Tryz.f388.name,by decide,Tryz.func388.trans (congrArg some (by kernel_rfl))⟩
 f15:=Tryz.func288.trans (congrArg some (by kernel_rfl))
 f20:=⟨Tryz.f397.name,by decide,Tryz.func397.trans (congrArg some (by kernel_rfl))⟩
 f21:=⟨Tryz.f398.name,by decide,Tryz.func398.trans (congrArg some (by kernel_rfl))⟩
 f22:=⟨Tryz.f399.name,by decide,Tryz.func399.trans (congrArg some (by kernel_rfl))⟩
 f23:=⟨Tryz.f400.name,by decide,Tryz.func400.trans (congrArg some (by kernel_rfl))⟩
 f24:=⟨Tryz.f401.name,by decide,Tryz.func401.trans (congrArg some (by kernel_rfl))⟩
 f25:=⟨Tryz.f402.name,by decide,Tryz.func402.trans (congrArg some (by kernel_rfl))⟩
 f26:=⟨Tryz.f403.name,by decide,Tryz.func403.trans (congrArg some (by kernel_rfl))⟩
 f27:=⟨Tryz.f404.name,by decide,Tryz.func404.trans (congrArg some (by kernel_rfl))⟩
 f28:=Tryz.func327.trans (congrArg some (by kernel_rfl))
 f29:=Tryz.func328.trans (congrArg some (by kernel_rfl))
 f46:=⟨Tryz.f408.name,by decide,Tryz.func408.trans (congrArg some (by kernel_rfl))⟩
 f47:=Tryz.func354.trans (congrArg some (by kernel_rfl))
 f48:=Tryz.func355.trans (congrArg some (by kernel_rfl))
 f49:=⟨Tryz.f409.name,by decide,Tryz.func409.trans (congrArg some (by kernel_rfl))⟩
 f50:=⟨Tryz.f410.name,by decide,Tryz.func410.trans (congrArg some (by kernel_rfl))⟩
 f57:=⟨Tryz.f412.name,by decide,Tryz.func412.trans (congrArg some (by kernel_rfl))⟩
 t0:=Tryz.underlying0
 a0:=Tryz.isAgg0
 z0:=Tryz.sizeOf0
 v0:=Tryz.zeroValue0
 t3:=Tryz.underlying3
 a3:=Tryz.isAgg3
 z3:=Tryz.sizeOf3
 v3:=Tryz.zeroValue3
 t4:=Tryz.underlying4
 a4:=Tryz.isAgg4
 z4:=Tryz.sizeOf4
 v4:=Tryz.zeroValue4
 t5:=Tryz.underlying5
 a5:=Tryz.isAgg5
 z5:=Tryz.sizeOf5
 v5:=Tryz.zeroValue5
 t9:=Tryz.underlying9
 a9:=Tryz.isAgg9
 z9:=Tryz.sizeOf9
 v9:=Tryz.zeroValue9
 t22:=Tryz.underlying22
 a22:=Tryz.isAgg22
 z22:=Tryz.sizeOf22
 v22:=Tryz.zeroValue22
 a24:=Tryz.isAgg3
 z24:=Tryz.sizeOf3
 t25:=Tryz.underlying59
 a25:=Tryz.isAgg59
 z25:=Tryz.sizeOf59
 v25:=Tryz.zeroValue59
 t39:=Tryz.underlying160
 a39:=Tryz.isAgg160
 z39:=Tryz.sizeOf160
 v39:=Tryz.zeroValue160
 t45:=Tryz.underlying270
 a45:=Tryz.isAgg270
 z45:=Tryz.sizeOf270
 v45:=Tryz.zeroValue270
 t46:=Tryz.underlying271
 a46:=Tryz.isAgg271
 z46:=Tryz.sizeOf271
 v46:=Tryz.zeroValue271
 t50:=Tryz.underlying125
 a50:=Tryz.isAgg125
 z50:=Tryz.sizeOf125
 v50:=Tryz.zeroValue125
 t53:=Tryz.underlying229
 a53:=Tryz.isAgg229
 z53:=Tryz.sizeOf229
 v53:=Tryz.zeroValue229
 t55:=Tryz.underlying256
 a55:=Tryz.isAgg256
 z55:=Tryz.sizeOf256
 v55:=Tryz.zeroValue256
 t66:=Tryz.underlying292
 a66:=Tryz.isAgg292
 z66:=Tryz.sizeOf292
 v66:=Tryz.zeroValue292
 t70:=Tryz.underlying296
 a70:=Tryz.isAgg296
 z70:=Tryz.sizeOf296
 v70:=Tryz.zeroValue296
 t76:=Tryz.underlying308
 a76:=Tryz.isAgg308
 z76:=Tryz.sizeOf308
 v76:=Tryz.zeroValue308
 t77:=Tryz.underlying148
 a77:=Tryz.isAgg148
 z77:=Tryz.sizeOf148
 v77:=Tryz.zeroValue148}
end Go.Proofs
namespace Go.Proofs.YtjbfdglebjnelaaGreat
open Go.TQ Go.Proofs
namespace Bv
theorem enters:Go.TQ.Enters Tryz.prog 251:=⟨_,Tryz.func251,by kernel_rfl,by kernel_rfl⟩
theorem none:Hc Tryz.prog 251:=fun p cap fv w=>AnyF.slices_SortFunc_none (P:=Tryz.prog) (ρ:=D5) {L6 with} p cap fv w
theorem Hp:L8 Tryz.prog 251:=fun α _ dS h1 cf hO g cb cq off cap d w eg hc hH hb hsz hT=>Any.slices_SortFunc_total L6 dS h1 cf hO g cb cq off cap d w eg hc hH hb hsz hT
end Bv
namespace Ka
theorem enters:Go.TQ.Enters Tryz.prog 378:=⟨_,Tryz.func378,by kernel_rfl,by kernel_rfl⟩
theorem none:Hc Tryz.prog 378:=fun p cap fv w=>AnyF.slices_SortFunc_none L0 p cap fv w
theorem Hp:Sa Tryz.prog 378 2:=fun α _ dS hk h1 cf hO g cb cq off cap d w eg hc hH hb hsz hT=>AnyQ.slices_SortFunc_total L0 2 Tryz.isAgg33 Tryz.sizeOf33 dS hk h1 cf hO g cb cq off cap d w eg hc hH hb hsz hT
end Ka
namespace J9
theorem enters:Go.TQ.Enters Tryz.prog 382:=⟨_,Tryz.func382,by kernel_rfl,by kernel_rfl⟩
theorem none:Hc Tryz.prog 382:=fun p cap fv w=>AnyF.slices_SortFunc_none (P:=Tryz.prog) (ρ:=D4) {LZ with} p cap fv w
theorem Hp:L8 Tryz.prog 382:=fun α _ dS h1 cf hO g cb cq off cap d w eg hc hH hb hsz hT=>Any.slices_SortFunc_total LZ dS h1 cf hO g cb cq off cap d w eg hc hH hb hsz hT
end J9
end Go.Proofs.YtjbfdglebjnelaaGreat
namespace Go.Proofs.YtjbfdglebjnelaaGreat
open Go.TQ Tryz
@[reducible] def u1 {A0 B:Type} (F:A0->B) (a:A0×Unit):B:=F a.1
@[reducible] def u2 {A0 A1 B:Type} (F:A0->A1->B) (a:A0×A1×Unit):B:=F a.1 a.2.1
@[reducible] def u3 {A0 A1 A2 B:Type} (F:A0->A1->A2->B) (a:A0×A1×A2×Unit):B:=F a.1 a.2.1 a.2.2.1
@[reducible] def u4 {A0 A1 A2 A3 B:Type} (F:A0->A1->A2->A3->B) (a:A0×A1×A2×A3×Unit):B:=F a.1 a.2.1 a.2.2.1 a.2.2.2.1
@[reducible] def u5 {A0 A1 A2 A3 A4 B:Type} (F:A0->A1->A2->A3->A4->B) (a:A0×A1×A2×A3×A4×Unit):B:=F a.1 a.2.1 a.2.2.1 a.2.2.2.1 a.2.2.2.2.1
@[reducible] def u6 {A0 A1 A2 A3 A4 A5 B:Type} (F:A0->A1->A2->A3->A4->A5->B) (a:A0×A1×A2×A3×A4×A5×Unit):B:=F a.1 a.2.1 a.2.2.1 a.2.2.2.1 a.2.2.2.2.1 a.2.2.2.2.2.1
@[reducible] def zB:af:=af.mk 0 (ByteArray.mk #[])
def p_:Nat->Nat->NT U->NT U|0,_,x=>x|k+1,n,x=>match n % 2 with|0=> .l (p_ k (n / 2) x)|_=> .r (p_ k (n / 2) x)
@[reducible] def oR {A B:Type} (x:Option B):Option (A⊕B):=Option.map Sum.inr x
@[reducible] def y0:Ty:=Ty.i .i64
@[reducible] def y1:Ty:=Ty.bool
@[reducible] def y2:Ty:=Ty.st .aa
@[reducible] def y3:Ty:=Ty.str
@[reducible] def y4:Ty:=Ty.st .ai
@[reducible] def y5:Ty:=Ty.st .aD
@[reducible] def y6:Ty:=Ty.st .vF
@[reducible] def y7:Ty:=Ty.sl Ty.str
@[reducible] def y8:Ty:=Ty.sl (Ty.i .i64)
@[reducible] def y9:Ty:=Ty.st .ak
@[reducible] def y10:Ty:=Ty.st .Seen
@[reducible] def y11:Ty:=Ty.st .aJ
@[reducible] def y12:Ty:=Ty.st .Config
@[reducible] def y13:Ty:=Ty.st .bl
@[reducible] def y14:Ty:=Ty.sl (Ty.st .aJ)
@[reducible] def y15:Ty:=Ty.st .uv
@[reducible] def y16:Ty:=Ty.st .cv
@[reducible] def y17:Ty:=Ty.st .qJ
@[reducible] def y19:Ty:=Ty.sl (Ty.st .cv)
@[reducible] def y26:Ty:=Ty.sl (Ty.st .aa)
@[reducible] def t8:dz U:= .ty y8
@[reducible] def t0:dz U:= .ty y0
@[reducible] def t7:dz U:= .ty y7
@[reducible] def t4:dz U:= .ty y4
@[reducible] def t2:dz U:= .ty y2
@[reducible] def t3:dz U:= .ty y3
@[reducible] def t11:dz U:= .ty y11
@[reducible] def t9:dz U:= .ty y9
@[reducible] def t5:dz U:= .ty y5
@[reducible] def t14:dz U:= .ty y14
@[reducible] def t12:dz U:= .ty y12
@[reducible] def t15:dz U:= .ty y15
@[reducible] def t10:dz U:= .ty y10
@[reducible] def q0:qg U:= .one y0
@[reducible] def q1:qg U:= .one y1
noncomputable def kf{f:FuncId}{fn:Func}(hf:prog.funcs[f]?=some fn)(sg:List (dz U))(r:qg U)(F:eu sg->Option r.den)(hs:List Nat)(n:NT U)(G:List (KS U prog))(h1:(fn.body.bind (aO prog fn.ntmps hs))=some (gz (kR prog fn.ntmps hs fn) n).erase:=by kernel_rfl)(h2:lT prog fn.results.toList=some ((lT prog fn.results.toList).getD []):=by kernel_rfl)(h3:(fn.name== "runtime.NumGoroutine")=false:=by kernel_rfl)(hok:(gz (kR prog fn.ntmps hs fn) n).dC=true:=by kernel_rfl)(hlen:Nat.ble sg.length fn.ntmps=true:=by kernel_rfl)(hF:Rq K (KS.ks G) (gz (kR prog fn.ntmps hs fn) n) ((lT prog fn.results.toList).getD []) sg r=F:=by kernel_rfl):KS U prog:=⟨.fn f sg r F,fnS (K:=K) _ _ _ G ⟨fn,hs,hf,rfl,h1,h2,h3⟩ hok (QG hlen) hF⟩
noncomputable def kr{f:FuncId}{fn:Func}(hf:prog.funcs[f]?=some fn)(pos:Nat)(R:Ty)(sg:List (dz U))(r:qg U)(F:U.den R->eu sg->Option (r.den×U.den R))(hs:List Nat)(n:NT U)(G:List (KS U prog))(h1:(fn.body.bind (aO prog fn.ntmps hs))=some (gz (kR prog fn.ntmps hs fn) n).erase:=by kernel_rfl)(h2:lT prog fn.results.toList=some ((lT prog fn.results.toList).getD []):=by kernel_rfl)(h3:(fn.name== "runtime.NumGoroutine")=false:=by kernel_rfl)(hok:(gz (kR prog fn.ntmps hs fn) n).dC=true:=by kernel_rfl)(hlen:Nat.ble (1+sg.length) fn.ntmps=true:=by kernel_rfl)(hF:rcK K (KS.ks G) (gz (kR prog fn.ntmps hs fn) n) ((lT prog fn.results.toList).getD []) pos R sg r=F:=by kernel_rfl):KS U prog:=⟨.rc f pos R sg r F,rcS (K:=K) _ _ _ G ⟨fn,hs,hf,rfl,h1,h2,h3⟩ hok (QG hlen) hF⟩
def eT0(x:ar):ar:={x with ai:=(av x.ai)}
theorem ar.e(x:ar):eT0 x=x:=by unfold eT0;simp only[al.eta,ar.eta]
def eT1(x:aj):aj:={x with ai:=(av x.ai)}
theorem aj.e(x:aj):eT1 x=x:=by unfold eT1;simp only[al.eta,ar.e,aj.eta]
def eT2(x:ab):ab:={x with ai:=(av x.ai)}
theorem ab.e(x:ab):eT2 x=x:=by unfold eT2;simp only[al.eta,ar.e,aj.e,ab.eta]
def eT3(x:bJ):bJ:={x with aD:=(eT0 x.aD),ak:=(eT2 x.ak)}
theorem bJ.e(x:bJ):eT3 x=x:=by unfold eT3;simp only[al.eta,ar.e,aj.e,ab.e,bJ.eta]
theorem etas:(∀x:al,al.mk x.aL x.bb x.aN=x)/\(∀x,eT0 x=x)/\(∀x,eT1 x=x)/\(∀x,eT2 x=x)/\(∀x,eT3 x=x):=⟨al.eta,ar.e,aj.e,ab.e,bJ.e⟩
attribute [simp] etas
noncomputable def Su:SA U:=gz (kR prog 10 [] f7) .e
noncomputable def Bc(a0:(List Int)):Option qH:=bif dq 0 (cm ((a0.length:Nat):Int) 800) (a0.length)then some (qH.mk ((a0.take (Int.toNat (cm ((a0.length:Nat):Int) 800))).drop (Int.toNat 0)) 0)else none
noncomputable def UZ:KS U prog:=⟨.nw 7 [t8] (Ty.st .Src) fun a=>Bc a.1,nwS (K:=K) Su 10 2 [] (fk f7 [] func7)⟩
noncomputable def yg(s:qH)(a0:Int):Option (Int×qH):=aZ (fun(v1:Bool×Unit)=>bif v1.1 then some (0,s)else(idx s.L (dm .i64 (ay .i64 s.At 1) 1)).bind fun x3=>if a0=0 then none else if a0=0 then none else some ((xk .i64 (ay .i64 (xk .i64 x3 a0) a0) a0),(qH.mk s.L (ay .i64 s.At 1)))) fun j2=>bif (decide (((s.L.length:Nat):Int)<=s.At))then j2 (true,())else j2 ((decide (a0<1)),())
def P6:=kr func31 0 (Ty.st .Src) [t0] q0 (fun s a=>yg s a.1) [] (p_ 2 1 (.j ⟨[.val 18 y1],[0,1]⟩ .e)) []
def sQ(s:qH)(a0:(List ByteArray)):Option (ByteArray×qH):=(yg s ((a0.length:Nat):Int)).bind fun p1=>(idx a0 p1.1).bind fun x2=>some (x2,p1.2)
def K7:=kr func32 0 (Ty.st .Src) [t7] (.one y3) (fun s a=>sQ s a.1) [] .e [P6]
def rO(s:qH):Option (ByteArray×qH):=(sQ s [(ByteArray.mk #[97]),(ByteArray.mk #[98]),(ByteArray.mk #[99]),(ByteArray.mk #[97,97])]).bind fun p1=>some (p1.1,p1.2)
def Jq:=kr func10 0 (Ty.st .Src) [] (.one y3) (fun s a=>rO s) [] .e [K7]
noncomputable def OF(rec:(al×Unit)->Option Int)(a0:al):Option Int:=aA (fun(v1:Int×Int×Unit)=>bif (decide (v1.2.1<((a0.aN.length:Nat):Int)))then(idx a0.aN v1.2.1).bind fun x2=>(rec ((av x2),())).bind fun r3=>some (Sum.inl ((bB v1.1 r3),(ay .i64 v1.2.1 1),()))else oR (some (ay .i64 v1.1 1))) (0,0,())
noncomputable def OB:Nat->(al×Unit)->Option Int:=jf (fun rec a=>OF rec a.1)
def FF(a0:al):Option Int:=OB (SizeOf.sizeOf a0+1) (a0,())
noncomputable def Sk(rec:(al×Unit)->Option Int)(a0:al):Option Int:=aA (fun(v1:Int×Int×Unit)=>bif (decide (v1.2.1<((a0.aN.length:Nat):Int)))then(idx a0.aN v1.2.1).bind fun x2=>(rec ((av x2),())).bind fun r3=>some (Sum.inl ((ay .i64 v1.1 r3),(ay .i64 v1.2.1 1),()))else oR (some v1.1)) ((ay .i64 ((a0.bb.length:Nat):Int) ((a0.aN.length:Nat):Int)),0,())
noncomputable def Sg:Nat->(al×Unit)->Option Int:=jf (fun rec a=>Sk rec a.1)
def Hf(a0:al):Option Int:=Sg (SizeOf.sizeOf a0+1) (a0,())
noncomputable def gn(a0:Int):Option Bool:=(bif (decide (0<=a0))then some (decide (a0<=1023))else some false).bind fun b1=>some b1
def kP(a0:Int)(a1:Int):Option Bool:=(gn a0).bind fun r1=>(bif r1 then some (decide (0<=a1))else some false).bind fun b2=>(bif b2 then some (decide (a1<10))else some false).bind fun b3=>(bif b3 then if a1<0 then none else some (decide ((B7 .i64 (lC .i64 a0 a1) 1)=1))else some false).bind fun b4=>some b4
def Bb(a0:(List Int)):Option (Int×Int×Unit):=aA (fun(v1:Int×Int×Unit)=>bif (decide (v1.2.1<((a0.length:Nat):Int)))then(idx a0 v1.2.1).bind fun x2=>(bif (decide (x2<0))then some true else some (decide (10<=x2))).bind fun b3=>bif b3 then oR (some (0,5,()))else(kP v1.1 x2).bind fun r4=>bif r4 then oR (some (0,6,()))else if x2<0 then none else some (Sum.inl ((oi .i64 v1.1 (bS .i64 1 x2)),(ay .i64 v1.2.1 1),()))else oR (some (v1.1,0,()))) (0,0,())
def o6(rec:(al×Unit)->Option Int)(a0:al):Option Int:=(bif (decide (a0.aL<1))then some true else some (decide ((ay .i64 ((a0.bb.length:Nat):Int) ((a0.aN.length:Nat):Int))<a0.aL))).bind fun b1=>bif b1 then some 4 else aA (fun(v2:Int×Unit)=>bif (decide (v2.1<((a0.bb.length:Nat):Int)))then(idx a0.bb v2.1).bind fun x3=>(bif (decide (x3<0))then some true else some (decide (10<=x3))).bind fun b4=>bif b4 then oR (some 5)else some (Sum.inl ((ay .i64 v2.1 1),()))else oR ((Bb a0.bb).bind fun r5=>bif (!decide (r5.2.1=0))then some r5.2.1 else aA (fun(v6:Int×Unit)=>bif (decide (v6.1<((a0.aN.length:Nat):Int)))then(idx a0.aN v6.1).bind fun x7=>(rec ((av x7),())).bind fun r8=>bif (!decide (r8=0))then oR (some r8)else some (Sum.inl ((ay .i64 v6.1 1),()))else oR (some 0)) (0,()))) (0,())
noncomputable def oY:Nat->(al×Unit)->Option Int:=jf (fun rec a=>o6 rec a.1)
def vY(a0:al):Option Int:=oY (SizeOf.sizeOf a0+1) (a0,())
def eK(a0:al):Option Int:=(FF (av a0)).bind fun r1=>(bif (decide (4<r1))then some true else(Hf (av a0)).bind fun r2=>some (decide (200<r2))).bind fun b3=>bif b3 then some 3 else(vY (av a0)).bind fun r4=>some r4
def Dq(a0:Int)(a1:Int)(a2:al):Option (ab×Int×Unit):=(bif (decide (a0<0))then some true else some (decide (9<a0))).bind fun b1=>bif b1 then some ((ab.mk 0 0 0 (al.mk 0 ([]:List Int) ([]:List al)) 0 zB zB zB zB 0 0 (ByteArray.mk #[]) ([]:List aj)),5,())else(bif (decide (a1<1))then some true else some (decide (1000000<a1))).bind fun b2=>bif b2 then some ((ab.mk 0 0 0 (al.mk 0 ([]:List Int) ([]:List al)) 0 zB zB zB zB 0 0 (ByteArray.mk #[]) ([]:List aj)),77,())else(eK (av a2)).bind fun r3=>bif (!decide (r3=0))then some ((ab.mk 0 0 0 (al.mk 0 ([]:List Int) ([]:List al)) 0 zB zB zB zB 0 0 (ByteArray.mk #[]) ([]:List aj)),1,())else some ((ab.mk a0 a1 0 (av a2) 1 zB zB zB zB 0 0 (ByteArray.mk #[]) ([]:List aj)),0,())
def vX(a0:al)(a1:Int)(a2:Int)(a3:Int):Option Int:=(eK (av a0)).bind fun r1=>bif (!decide (r1=0))then some r1 else(bif (decide (a1<0))then some true else some (decide (10<=a1))).bind fun b2=>bif b2 then some 5 else(bif (decide (a2<0))then some true else some (decide (1000000<a2))).bind fun b3=>(bif b3 then some true else some (decide (a3<1))).bind fun b4=>(bif b4 then some true else some (decide (1000<a3))).bind fun b5=>bif b5 then some 1 else some 0
noncomputable def kF(rec:(al×Int×Unit)->Option (eA×Bool×Unit))(a0:al)(a1:Int):Option (eA×Bool×Unit):=aA (fun(v1:Int×eA×Unit)=>bif (decide (v1.1<((a0.bb.length:Nat):Int)))then(idx a0.bb v1.1).bind fun x2=>bif (decide (x2=a1))then oR (some ((eA.mk a0.aL (ay .i64 ((a0.bb.length:Nat):Int) ((a0.aN.length:Nat):Int))),true,()))else some (Sum.inl ((ay .i64 v1.1 1),v1.2.1,()))else oR (aA (fun(v3:Int×eA×Unit)=>bif (decide (v3.1<((a0.aN.length:Nat):Int)))then(idx a0.aN v3.1).bind fun x4=>(rec ((av x4),a1,())).bind fun r5=>bif r5.2.1 then oR (some ((eA.mk (oq .i64 a0.aL r5.1.Oo) (oq .i64 (ay .i64 ((a0.bb.length:Nat):Int) ((a0.aN.length:Nat):Int)) r5.1.Oq)),true,()))else some (Sum.inl ((ay .i64 v3.1 1),v3.2.1,()))else oR (some ((eA.mk 0 0),false,()))) (0,v1.2.1,()))) (0,(eA.mk 0 0),())
noncomputable def qL:Nat->(al×Int×Unit)->Option (eA×Bool×Unit):=jf (fun rec a=>kF rec a.1 a.2.1)
def zk(a0:al)(a1:Int):Option (eA×Bool×Unit):=qL (SizeOf.sizeOf a0+SizeOf.sizeOf a1+1) (a0,a1,())
noncomputable def oD(a0:Int)(a1:Int)(a2:Int)(a3:Int):Option Int:=some (bq .u32 (lC .u64 (du .u64 (oq .u64 (du .u64 (oq .u64 (du .u64 (ay .u64 (du .u64 (du .u64 (du .u64 (bS .u64 (bq .u64 a0) 56) (bS .u64 (bq .u64 a1) 24)) (bS .u64 (bq .u64 a2) 8)) (bq .u64 a3)) 11400714819323198485) (lC .u64 (ay .u64 (du .u64 (du .u64 (du .u64 (bS .u64 (bq .u64 a0) 56) (bS .u64 (bq .u64 a1) 24)) (bS .u64 (bq .u64 a2) 8)) (bq .u64 a3)) 11400714819323198485) 30)) 13787848793156543929) (lC .u64 (oq .u64 (du .u64 (ay .u64 (du .u64 (du .u64 (du .u64 (bS .u64 (bq .u64 a0) 56) (bS .u64 (bq .u64 a1) 24)) (bS .u64 (bq .u64 a2) 8)) (bq .u64 a3)) 11400714819323198485) (lC .u64 (ay .u64 (du .u64 (du .u64 (du .u64 (bS .u64 (bq .u64 a0) 56) (bS .u64 (bq .u64 a1) 24)) (bS .u64 (bq .u64 a2) 8)) (bq .u64 a3)) 11400714819323198485) 30)) 13787848793156543929) 27)) 10723151780598845931) (lC .u64 (oq .u64 (du .u64 (oq .u64 (du .u64 (ay .u64 (du .u64 (du .u64 (du .u64 (bS .u64 (bq .u64 a0) 56) (bS .u64 (bq .u64 a1) 24)) (bS .u64 (bq .u64 a2) 8)) (bq .u64 a3)) 11400714819323198485) (lC .u64 (ay .u64 (du .u64 (du .u64 (du .u64 (bS .u64 (bq .u64 a0) 56) (bS .u64 (bq .u64 a1) 24)) (bS .u64 (bq .u64 a2) 8)) (bq .u64 a3)) 11400714819323198485) 30)) 13787848793156543929) (lC .u64 (oq .u64 (du .u64 (ay .u64 (du .u64 (du .u64 (du .u64 (bS .u64 (bq .u64 a0) 56) (bS .u64 (bq .u64 a1) 24)) (bS .u64 (bq .u64 a2) 8)) (bq .u64 a3)) 11400714819323198485) (lC .u64 (ay .u64 (du .u64 (du .u64 (du .u64 (bS .u64 (bq .u64 a0) 56) (bS .u64 (bq .u64 a1) 24)) (bS .u64 (bq .u64 a2) 8)) (bq .u64 a3)) 11400714819323198485) 30)) 13787848793156543929) 27)) 10723151780598845931) 31)) 32))
def nB(a0:al)(a1:Int)(a2:Int)(a3:Int)(a4:Int):Option Bool:=(vX (av a0) a1 a2 a3).bind fun r1=>(bif (!decide (r1=0))then some true else some (decide (a4<0))).bind fun b2=>(bif b2 then some true else some (decide (10<=a4))).bind fun b3=>bif b3 then some false else(zk (av a0) a4).bind fun r4=>aZ (fun(v5:Bool×Unit)=>some v5.1) fun j6=>bif (decide (a4=a1))then j6 (true,())else bif r4.2.1 then(oD 1 a2 a3 a4).bind fun r7=>j6 ((decide ((oq .i64 (bq .i64 r7) r4.1.Oq)<(bS .i64 r4.1.Oo 32))),())else j6 (false,())
def lX(a0:al)(a1:Int)(a2:Int)(a3:Int):Option (Int×Int×Unit):=(vX (av a0) a1 a2 a3).bind fun r1=>bif (!decide (r1=0))then some (0,r1,())else aA (fun(v2:Int×Int×Unit)=>bif (decide (v2.2.1<10))then aZ (fun(v3:Int×Unit)=>some (Sum.inl (v3.1,(ay .i64 v2.2.1 1),()))) fun j4=>(nB (av a0) a1 a2 a3 v2.2.1).bind fun r5=>bif (!r5)then j4 (v2.1,())else(oD 2 a2 a3 v2.2.1).bind fun r6=>(oD 2 a2 a3 v2.1).bind fun r7=>(bif (decide (r7<r6))then some true else(bif (decide (r6=r7))then some (decide (v2.1<v2.2.1))else some false).bind fun b8=>some b8).bind fun b9=>bif b9 then j4 (v2.2.1,())else j4 (v2.1,())else oR (some (v2.1,0,()))) (a1,0,())
def pG(a0:al)(a1:Int)(a2:Int)(a3:Int):Option (Int×Int×Unit):=(lX (av a0) a1 a2 a3).bind fun r1=>bif (!decide (r1.2.1=0))then some (0,r1.2.1,())else aA (fun(v2:Int×Int×Unit)=>bif (decide (v2.2.1<=a3))then aZ (fun(v3:Int×Unit)=>some (Sum.inl (v3.1,(ay .i64 v2.2.1 1),()))) fun j4=>(lX (av a0) a1 a2 v2.2.1).bind fun r5=>(kP v2.1 r5.1).bind fun r6=>bif (!r6)then if r5.1<0 then none else j4 ((oi .i64 v2.1 (bS .i64 1 r5.1)),())else j4 (v2.1,())else oR (some (v2.1,0,()))) (0,1,())
def si(a0:Int):Option (List Int):=aA (fun(v1:Int×(List Int)×Unit)=>bif (decide (v1.1<10))then aZ (fun(v2:(List Int)×Unit)=>some (Sum.inl ((ay .i64 v1.1 1),v2.1,()))) fun j3=>(kP a0 v1.1).bind fun r4=>bif r4 then bif bp 8 (v1.2.1.length+List.length [v1.1])then j3 ((v1.2.1++[v1.1]),())else none else j3 (v1.2.1,())else oR (some v1.2.1)) (0,([]:List Int),())
noncomputable def nX(a0:(List ByteArray))(a1:ByteArray):Option Bool:=aA (fun(v1:Int×Unit)=>bif (decide (v1.1<((a0.length:Nat):Int)))then(idx a0 v1.1).bind fun x2=>bif (decide (a1=x2))then oR (some true)else some (Sum.inl ((ay .i64 v1.1 1),()))else oR (some false)) (0,())
noncomputable def jB(a0:ByteArray)(a1:ByteArray):Option Int:=bif (decide (a0=a1))then some 0 else(bif (decide (((ByteArray.size a0:Nat):Int)<((ByteArray.size a1:Nat):Int)))then some true else(bif (decide (((ByteArray.size a0:Nat):Int)=((ByteArray.size a1:Nat):Int)))then some (jR a0 a1)else some false).bind fun b1=>some b1).bind fun b2=>bif b2 then some (-1:Int)else some 1
def nW(a0:(List ByteArray))(a1:ByteArray):Option (List ByteArray):=(nX a0 a1).bind fun r1=>(bif r1 then some true else some (decide (40<=((a0.length:Nat):Int)))).bind fun b2=>bif b2 then some a0 else aA (fun(v3:Bool×Int×(List ByteArray)×Unit)=>bif (decide (v3.2.1<((a0.length:Nat):Int)))then(idx a0 v3.2.1).bind fun x4=>aZ (fun(v5:Bool×(List ByteArray)×Unit)=>bif bp 16 (v5.2.1.length+List.length [x4])then some (Sum.inl (v5.1,(ay .i64 v3.2.1 1),(v5.2.1++[x4]),()))else none) fun j6=>(bif (!v3.1)then(jB a1 x4).bind fun r7=>some (decide (r7<0))else some false).bind fun b8=>bif b8 then bif bp 16 (v3.2.2.1.length+List.length [a1])then j6 (true,(v3.2.2.1++[a1]),())else none else j6 (v3.1,v3.2.2.1,())else oR (aZ (fun(v9:(List ByteArray)×Unit)=>some v9.1) fun j10=>bif (!v3.1)then bif bp 16 (v3.2.2.1.length+List.length [a1])then j10 ((v3.2.2.1++[a1]),())else none else j10 (v3.2.2.1,()))) (false,0,([]:List ByteArray),())
def jW(a0:(List ByteArray))(a1:(List ByteArray)):Option (List ByteArray):=aA (fun(v1:Int×Int×(List ByteArray)×Unit)=>(bif (decide (v1.1<((a0.length:Nat):Int)))then some true else some (decide (v1.2.1<((a1.length:Nat):Int)))).bind fun b2=>bif b2 then aZ (fun(v3:Int×Int×ByteArray×Unit)=>bif bp 16 (v1.2.2.1.length+List.length [v3.2.2.1])then some (Sum.inl (v3.1,v3.2.1,(v1.2.2.1++[v3.2.2.1]),()))else none) fun j4=>aZ (fun(v5:Bool×Unit)=>bif v5.1 then(idx a0 v1.1).bind fun x7=>j4 ((ay .i64 v1.1 1),v1.2.1,x7,())else aZ (fun(v8:Bool×Unit)=>bif v8.1 then(idx a1 v1.2.1).bind fun x10=>j4 (v1.1,(ay .i64 v1.2.1 1),x10,())else(idx a0 v1.1).bind fun x11=>j4 ((ay .i64 v1.1 1),(ay .i64 v1.2.1 1),x11,())) fun j9=>bif (decide (v1.1=((a0.length:Nat):Int)))then j9 (true,())else(idx a0 v1.1).bind fun x12=>(idx a1 v1.2.1).bind fun x13=>(jB x12 x13).bind fun r14=>j9 ((decide (0<r14)),())) fun j6=>bif (decide (v1.2.1=((a1.length:Nat):Int)))then j6 (true,())else bif (decide (v1.1<((a0.length:Nat):Int)))then(idx a0 v1.1).bind fun x15=>(idx a1 v1.2.1).bind fun x16=>(jB x15 x16).bind fun r17=>j6 ((decide (r17<0)),())else j6 (false,())else oR (some v1.2.2.1)) (0,0,([]:List ByteArray),())
def qS(a0:ar):Option ar:=(pG (av a0.ai) a0.aq a0.bl a0.Round).bind fun r1=>(si r1.1).bind fun r2=>aA (fun(v3:Int×ar×Unit)=>bif (decide (v3.1<((r2.length:Nat):Int)))then aZ (fun(v4:ar×Unit)=>some (Sum.inl ((ay .i64 v3.1 1),(eT0 v4.1),()))) fun j5=>(idx r2 v3.1).bind fun x6=>bif (decide (x6=v3.2.1.aq))then aZ (fun(v7:ar×Unit)=>j5 ((eT0 v7.1),())) fun j8=>bif (!decide (v3.2.1.lL=(ByteArray.mk #[])))then(nW v3.2.1.ba v3.2.1.lL).bind fun r9=>j8 ({v3.2.1 with ai:=(av v3.2.1.ai),ba:=r9},())else j8 ((eT0 v3.2.1),())else aA (fun(v10:Int×ar×Unit)=>bif (decide (v10.1<((v3.2.1.aw.length:Nat):Int)))then aZ (fun(v11:ar×Unit)=>some (Sum.inl ((ay .i64 v10.1 1),(eT0 v11.1),()))) fun j12=>(idx v3.2.1.aw v10.1).bind fun x13=>bif (!decide (x13.aq=x6))then j12 ((eT0 v10.2.1),())else(jW x13.ba x13.aB).bind fun r14=>aA (fun(v15:Int×ar×Unit)=>bif (decide (v15.1<((r14.length:Nat):Int)))then(idx r14 v15.1).bind fun x16=>(nW v15.2.1.ba x16).bind fun r17=>some (Sum.inl ((ay .i64 v15.1 1),{v15.2.1 with ai:=(av v15.2.1.ai),ba:=r17},()))else oR (j12 ((eT0 v15.2.1),()))) (0,(eT0 v10.2.1),())else oR (j5 ((eT0 v10.2.1),()))) (0,(eT0 v3.2.1),())else oR (some (eT0 v3.2.1))) (0,(eT0 a0),())
def o4(a0:ar):Option (List ByteArray):=(jW a0.ba a0.aB).bind fun r1=>aA (fun(v2:(List ByteArray)×Int×Unit)=>bif (decide (v2.2.1<((a0.aw.length:Nat):Int)))then(idx a0.aw v2.2.1).bind fun x3=>(jW x3.ba x3.aB).bind fun r4=>(jW v2.1 r4).bind fun r5=>some (Sum.inl (r5,(ay .i64 v2.2.1 1),()))else oR (some v2.1)) (r1,0,())
noncomputable def Dr(a0:ar):Option az:=some {a0 with ai:=(av a0.ai)}
def lB(a0:ar)(a1:ByteArray):Option (Int×Int×Unit):=bif bp 120 (List.length ([]:List az)+a0.aw.length)then(Dr (eT0 a0)).bind fun r1=>bif bp 120 (List.length (([]:List az)++a0.aw)+List.length [{r1 with ai:=(av r1.ai)}])then aA (fun(v2:Int×Int×Int×Unit)=>bif (decide (v2.2.2.1<((List.length ((([]:List az)++a0.aw)++[{r1 with ai:=(av r1.ai)}]):Nat):Int)))then aZ (fun(v3:Int×Int×Unit)=>some (Sum.inl (v3.1,v3.2.1,(ay .i64 v2.2.2.1 1),()))) fun j4=>(idx ((([]:List az)++a0.aw)++[{r1 with ai:=(av r1.ai)}]) v2.2.2.1).bind fun x5=>(((([]:List az)++a0.aw)++[{r1 with ai:=(av r1.ai)}])[(Int.toNat v2.2.2.1)]?).bind fun x6=>aZ (fun(v7:Int×Unit)=>(nX x6.aB a1).bind fun r9=>bif r9 then if x6.aq<0 then none else j4 (v7.1,(oi .i64 v2.2.1 (bS .i64 1 x6.aq)),())else j4 (v7.1,v2.2.1,())) fun j8=>(nX x6.ba a1).bind fun r10=>bif r10 then if x6.aq<0 then none else j8 ((oi .i64 v2.1 (bS .i64 1 x6.aq)),())else j8 (v2.1,())else oR (some (v2.1,v2.2.1,()))) (0,0,0,())else none else none
noncomputable def OC(a0:gR):Option Bool:=(bif (decide (0<=a0.rH))then some (decide (a0.rH<8))else some false).bind fun b1=>(bif b1 then some (decide (0<=a0.Value))else some false).bind fun b2=>(bif b2 then some (decide (a0.Value<=15))else some false).bind fun b3=>some b3
noncomputable def Mb(a0:gR)(a1:gR):Option Int:=bif (xor false (decide (a0.rH=a1.rH)&&(decide (a0.Value=a1.Value)&&true)))then some 0 else(bif (decide (a0.rH<a1.rH))then some true else(bif (decide (a0.rH=a1.rH))then some (decide (a0.Value<a1.Value))else some false).bind fun b1=>some b1).bind fun b2=>bif b2 then some (-1:Int)else some 1
def o5(a0:(List gR)):Option Bool:=aA (fun(v1:Int×Unit)=>bif (decide (v1.1<((a0.length:Nat):Int)))then(idx a0 v1.1).bind fun x2=>aZ (fun(v3:Bool×Unit)=>bif v3.1 then oR (some false)else some (Sum.inl ((ay .i64 v1.1 1),()))) fun j4=>(OC x2).bind fun r5=>bif (!r5)then j4 (true,())else bif (decide (0<v1.1))then(idx a0 (dm .i64 v1.1 1)).bind fun x6=>(Mb x6 x2).bind fun r7=>j4 ((decide (0<=r7)),())else j4 (false,())else oR (some true)) (0,())
def sf(a0:cu):Option Bool:=(bif (decide (0<=a0.aq))then some (decide (a0.aq<10))else some false).bind fun b1=>(bif b1 then some (decide (1<=a0.aF))else some false).bind fun b2=>(bif b2 then(eK (av a0.ai)).bind fun r3=>some (decide (r3=0))else some false).bind fun b4=>(bif b4 then(o5 a0.ba).bind fun r5=>some r5 else some false).bind fun b6=>(bif b6 then(o5 a0.aB).bind fun r7=>some r7 else some false).bind fun b8=>some b8
def qT(a0:Int)(a1:al)(a2:(List cu)):Option aU:=bif decide ((10:Int)=10)&&decide ((0:Int)<=10)&&bp 64 (Int.toNat 10)then aA (fun(v1:Int×aU×(List aR)×Unit)=>bif (decide (v1.1<((a2.length:Nat):Int)))then aZ (fun(v2:aU×(List aR)×Unit)=>some (Sum.inl ((ay .i64 v1.1 1),(aU.mk ([]:List aR)),v2.2.1,()))) fun j3=>(idx a2 v1.1).bind fun x4=>(sf {x4 with ai:=(av x4.ai)}).bind fun r5=>bif r5 then(idx v1.2.2.1 x4.aq).bind fun x6=>(v1.2.2.1[(Int.toNat x4.aq)]?).bind fun x7=>j3 ((aU.mk ([]:List aR)),(v1.2.2.1.set (Int.toNat x4.aq) (aR.mk true (av x4.ai))),())else j3 ((aU.mk ([]:List aR)),v1.2.2.1,())else oR (aZ (fun(v8:aU×(List aR)×Unit)=>some (aU.mk v8.2.1)) fun j9=>(bif (decide (0<=a0))then some (decide (a0<10))else some false).bind fun b10=>bif b10 then(idx v1.2.2.1 a0).bind fun x11=>(v1.2.2.1[(Int.toNat a0)]?).bind fun x12=>(eK (av a1)).bind fun r13=>bif (decide (r13=0))then(idx (v1.2.2.1.set (Int.toNat a0) (aR.mk false (al.mk 0 ([]:List Int) ([]:List al)))) a0).bind fun x14=>((v1.2.2.1.set (Int.toNat a0) (aR.mk false (al.mk 0 ([]:List Int) ([]:List al))))[(Int.toNat a0)]?).bind fun x15=>j9 ((aU.mk ([]:List aR)),((v1.2.2.1.set (Int.toNat a0) (aR.mk false (al.mk 0 ([]:List Int) ([]:List al)))).set (Int.toNat a0) (aR.mk true (av a1))),())else j9 ((aU.mk ([]:List aR)),(v1.2.2.1.set (Int.toNat a0) (aR.mk false (al.mk 0 ([]:List Int) ([]:List al)))),())else j9 ((aU.mk ([]:List aR)),v1.2.2.1,()))) (0,(aU.mk ([]:List aR)),(List.replicate (Int.toNat 10) (aR.mk false (al.mk 0 ([]:List Int) ([]:List al)))),())else none
def mz(a0:ar):Option aU:=aA (fun(v1:Int×(List cu)×Unit)=>bif (decide (v1.1<((a0.aw.length:Nat):Int)))then(idx a0.aw v1.1).bind fun x2=>bif bp 120 (v1.2.1.length+List.length [(cu.mk x2.aq x2.aF (av x2.ai) ([]:List gR) ([]:List gR))])then some (Sum.inl ((ay .i64 v1.1 1),(v1.2.1++[(cu.mk x2.aq x2.aF (av x2.ai) ([]:List gR) ([]:List gR))]),()))else none else oR ((qT a0.aq (av a0.ai) v1.2.1).bind fun r3=>some r3)) (0,([]:List cu),())
noncomputable def oE(a0:aU):Option Int:=aA (fun(v1:Int×Int×Unit)=>bif (decide (v1.2.1<((a0.bj.length:Nat):Int)))then aZ (fun(v2:Int×Unit)=>some (Sum.inl (v2.1,(ay .i64 v1.2.1 1),()))) fun j3=>(idx a0.bj v1.2.1).bind fun x4=>(bif (decide (v1.2.1<10))then some x4.dG else some false).bind fun b5=>bif b5 then if v1.2.1<0 then none else j3 ((oi .i64 v1.1 (bS .i64 1 v1.2.1)),())else j3 (v1.1,())else oR (some v1.1)) (0,0,())
def uY(rec:(al×Int×Unit)->Option Bool)(a0:al)(a1:Int):Option Bool:=(gn a1).bind fun r1=>bif (!r1)then some false else aA (fun(v2:Int×Int×Unit)=>bif (decide (v2.2.1<((a0.bb.length:Nat):Int)))then aZ (fun(v3:Int×Unit)=>some (Sum.inl (v3.1,(ay .i64 v2.2.1 1),()))) fun j4=>(idx a0.bb v2.2.1).bind fun x5=>(kP a1 x5).bind fun r6=>bif r6 then j4 ((ay .i64 v2.1 1),())else j4 (v2.1,())else oR (aA (fun(v7:Int×Int×Unit)=>bif (decide (v7.2.1<((a0.aN.length:Nat):Int)))then aZ (fun(v8:Int×Unit)=>some (Sum.inl (v8.1,(ay .i64 v7.2.1 1),()))) fun j9=>(idx a0.aN v7.2.1).bind fun x10=>(rec ((av x10),a1,())).bind fun r11=>bif r11 then j9 ((ay .i64 v7.1 1),())else j9 (v7.1,())else oR (some (decide (a0.aL<=v7.1)))) (v2.1,0,()))) (0,0,())
noncomputable def AG:Nat->(al×Int×Unit)->Option Bool:=jf (fun rec a=>uY rec a.1 a.2.1)
def lj(a0:al)(a1:Int):Option Bool:=AG (SizeOf.sizeOf a0+SizeOf.sizeOf a1+1) (a0,a1,())
def qU(a0:aU)(a1:Int)(a2:Int):Option Bool:=(gn a2).bind fun r1=>(bif (!r1)then some true else(oE a0).bind fun r2=>(kP r2 a1).bind fun r3=>some (!r3)).bind fun b4=>bif b4 then some false else(idx a0.bj a1).bind fun x5=>if a1<0 then none else(lj (av x5.ai) (oi .i64 (dm .i64 1023 a2) (bS .i64 1 a1))).bind fun r6=>some (!r6)
def sG(a0:aU)(a1:Int):Option (List Int):=(gn a1).bind fun r1=>bif (!r1)then some ([]:List Int)else(oE a0).bind fun r2=>aA (fun(v3:Int×Bool×(List Int)×Unit)=>bif v3.2.1 then(si v3.1).bind fun r4=>aA (fun(v5:Int×Bool×Int×(List Int)×Unit)=>bif (decide (v5.2.2.1<((r4.length:Nat):Int)))then(idx r4 v5.2.2.1).bind fun x6=>(idx a0.bj x6).bind fun x7=>(lj (av x7.ai) v5.1).bind fun r8=>bif (!r8)then if x6<0 then none else bif bp 8 (v5.2.2.2.1.length+List.length [x6])then oR (some (Sum.inl ((dm .i64 v5.1 (bS .i64 1 x6)),true,(v5.2.2.2.1++[x6]),())))else none else some (Sum.inl (v5.1,v5.2.1,(ay .i64 v5.2.2.1 1),v5.2.2.2.1,()))else oR (some (Sum.inl (v5.1,v5.2.1,v5.2.2.2.1,())))) (v3.1,false,0,v3.2.2.1,())else oR (some v3.2.2.1)) ((B7 .i64 a1 r2),true,([]:List Int),())
def kc(a0:aU)(a1:Int):Option Int:=(gn a1).bind fun r1=>bif (!r1)then some 0 else(oE a0).bind fun r2=>(sG a0 a1).bind fun r3=>aA (fun(v4:Int×Int×Unit)=>bif (decide (v4.2.1<((r3.length:Nat):Int)))then(idx r3 v4.2.1).bind fun x5=>if x5<0 then none else some (Sum.inl ((dm .i64 v4.1 (bS .i64 1 x5)),(ay .i64 v4.2.1 1),()))else oR (some v4.1)) ((B7 .i64 a1 r2),0,())
def pH(a0:aU)(a1:Int)(a2:Int)(a3:Int):Option Bool:=(gn a2).bind fun r1=>(bif (!r1)then some true else(gn a3).bind fun r2=>some (!r2)).bind fun b3=>bif b3 then some false else(qU a0 a1 a3).bind fun r4=>(bif r4 then some true else(kc a0 (oi .i64 a2 a3)).bind fun r5=>(kP r5 a1).bind fun r6=>some r6).bind fun b7=>some b7
def su(a0:ar)(a1:ByteArray):Option Bool:=(lB (eT0 a0) a1).bind fun r1=>aZ (fun(v2:Bool×Unit)=>some v2.1) fun j3=>(nX a0.aB a1).bind fun r4=>bif (!r4)then bif (decide (((a0.aB.length:Nat):Int)<40))then(mz (eT0 a0)).bind fun r5=>(pH r5 a0.aq r1.1 r1.2.1).bind fun r6=>j3 (r6,())else j3 (false,())else j3 (false,())
def iT(a0:aU)(a1:Int)(a2:Int):Option Bool:=(kc a0 a2).bind fun r1=>(kP r1 a1).bind fun r2=>some r2
noncomputable def qR(a0:(List ByteArray))(a1:(List ByteArray)):Option Bool:=bif (!decide (((a0.length:Nat):Int)=((a1.length:Nat):Int)))then some false else aA (fun(v1:Int×Unit)=>bif (decide (v1.1<((a0.length:Nat):Int)))then(idx a0 v1.1).bind fun x2=>(idx a1 v1.1).bind fun x3=>bif (!decide (x2=x3))then oR (some false)else some (Sum.inl ((ay .i64 v1.1 1),()))else oR (some true)) (0,())
noncomputable def Hg(a0:(List Int))(a1:(List Int)):Option Bool:=bif (!decide (((a0.length:Nat):Int)=((a1.length:Nat):Int)))then some false else aA (fun(v1:Int×Unit)=>bif (decide (v1.1<((a0.length:Nat):Int)))then(idx a0 v1.1).bind fun x2=>(idx a1 v1.1).bind fun x3=>bif (!decide (x2=x3))then oR (some false)else some (Sum.inl ((ay .i64 v1.1 1),()))else oR (some true)) (0,())
def Cl(rec:(al×al×Unit)->Option Bool)(a0:al)(a1:al):Option Bool:=(bif (!decide (a0.aL=a1.aL))then some true else(Hg a0.bb a1.bb).bind fun r1=>some (!r1)).bind fun b2=>(bif b2 then some true else some (!decide (((a0.aN.length:Nat):Int)=((a1.aN.length:Nat):Int)))).bind fun b3=>bif b3 then some false else aA (fun(v4:Int×Unit)=>bif (decide (v4.1<((a0.aN.length:Nat):Int)))then(idx a0.aN v4.1).bind fun x5=>(idx a1.aN v4.1).bind fun x6=>(rec ((av x5),(av x6),())).bind fun r7=>bif (!r7)then oR (some false)else some (Sum.inl ((ay .i64 v4.1 1),()))else oR (some true)) (0,())
noncomputable def Ce:Nat->(al×al×Unit)->Option Bool:=jf (fun rec a=>Cl rec a.1 a.2.1)
def tM(a0:al)(a1:al):Option Bool:=Ce (SizeOf.sizeOf a0+SizeOf.sizeOf a1+1) (a0,a1,())
def mV(a0:ar)(a1:ar):Option ar:=aZ (fun(v1:ar×Unit)=>aA (fun(v3:Bool×ar×Unit)=>bif v3.1 then(o4 (eT0 v3.2.1)).bind fun r4=>aA (fun(v5:Bool×Int×ar×Unit)=>bif (decide (v5.2.1<((r4.length:Nat):Int)))then(idx r4 v5.2.1).bind fun x6=>(su (eT0 v5.2.2.1) x6).bind fun r7=>bif r7 then(nW v5.2.2.1.aB x6).bind fun r8=>oR (some (Sum.inl (true,{v5.2.2.1 with ai:=(av v5.2.2.1.ai),aB:=r8},())))else some (Sum.inl (v5.1,(ay .i64 v5.2.1 1),(eT0 v5.2.2.1),()))else oR (some (Sum.inl (v5.1,(eT0 v5.2.2.1),())))) (false,0,(eT0 v3.2.1),())else oR (aA (fun(v9:Int×ar×Unit)=>bif (decide (v9.1<((v3.2.1.aB.length:Nat):Int)))then aZ (fun(v10:ar×Unit)=>some (Sum.inl ((ay .i64 v9.1 1),(eT0 v10.1),()))) fun j11=>(idx v3.2.1.aB v9.1).bind fun x12=>(lB (eT0 v9.2.1) x12).bind fun r13=>(mz (eT0 v9.2.1)).bind fun r14=>(iT r14 v9.2.1.aq r13.2.1).bind fun r15=>bif r15 then(nW v9.2.1.aG x12).bind fun r16=>j11 ({v9.2.1 with ai:=(av v9.2.1.ai),aG:=r16},())else j11 ((eT0 v9.2.1),())else oR (aZ (fun(v17:ar×Unit)=>some (eT0 v17.1)) fun j18=>(qR a0.ba v9.2.1.ba).bind fun r19=>(bif (!r19)then some true else(qR a0.aB v9.2.1.aB).bind fun r20=>some (!r20)).bind fun b21=>(bif b21 then some true else(tM (av a0.ai) (av v9.2.1.ai)).bind fun r22=>some (!r22)).bind fun b23=>bif b23 then j18 ({v9.2.1 with aF:=(ay .i64 a0.aF 1),ai:=(av v9.2.1.ai)},())else j18 ((eT0 v9.2.1),()))) (0,(eT0 v3.2.1),()))) (true,(eT0 v1.1),())) fun j2=>bif (decide (((a1.aG.length:Nat):Int)=0))then(qS (eT0 a1)).bind fun r24=>j2 ((eT0 r24),())else j2 ((eT0 a1),())
def nk(a0:Int)(a1:Int)(a2:al)(a3:ByteArray):Option (ar×Int×Unit):=(bif (decide (a0<0))then some true else some (decide (10<=a0))).bind fun b1=>bif b1 then some ((ar.mk 0 0 0 0 (al.mk 0 ([]:List Int) ([]:List al)) (ByteArray.mk #[]) ([]:List ByteArray) ([]:List ByteArray) ([]:List ByteArray) ([]:List az)),5,())else(bif (decide (a1<0))then some true else some (decide (1000000<a1))).bind fun b2=>bif b2 then some ((ar.mk 0 0 0 0 (al.mk 0 ([]:List Int) ([]:List al)) (ByteArray.mk #[]) ([]:List ByteArray) ([]:List ByteArray) ([]:List ByteArray) ([]:List az)),1,())else(eK (av a2)).bind fun r3=>bif (!decide (r3=0))then some ((ar.mk 0 0 0 0 (al.mk 0 ([]:List Int) ([]:List al)) (ByteArray.mk #[]) ([]:List ByteArray) ([]:List ByteArray) ([]:List ByteArray) ([]:List az)),r3,())else bif (decide (200<((ByteArray.size a3:Nat):Int)))then some ((ar.mk 0 0 0 0 (al.mk 0 ([]:List Int) ([]:List al)) (ByteArray.mk #[]) ([]:List ByteArray) ([]:List ByteArray) ([]:List ByteArray) ([]:List az)),3,())else(mV (ar.mk a0 a1 1 1 (av a2) a3 ([]:List ByteArray) ([]:List ByteArray) ([]:List ByteArray) ([]:List az)) (ar.mk a0 a1 1 1 (av a2) a3 ([]:List ByteArray) ([]:List ByteArray) ([]:List ByteArray) ([]:List az))).bind fun r4=>some ({r4 with aF:=1,ai:=(av r4.ai)},0,())
noncomputable def fK(a0:Int):Option Int:=bif (decide (12<=a0))then some 12 else some (bB (ay .i64 a0 1) 1)
def P5:=kf func26 [t0] q0 (u1 fK) [] .e []
noncomputable def vV(a0:ByteArray):Option Bool:=(bif (decide (1<=((ByteArray.size a0:Nat):Int)))then some (decide (((ByteArray.size a0:Nat):Int)<=200))else some false).bind fun b1=>some b1
def ny(a0:(List ByteArray)):Option (ByteArray×Bool×Unit):=aA (fun(v1:ByteArray×Bool×Int×Unit)=>bif (decide (v1.2.2.1<((a0.length:Nat):Int)))then aZ (fun(v2:ByteArray×Bool×Unit)=>some (Sum.inl (v2.1,v2.2.1,(ay .i64 v1.2.2.1 1),()))) fun j3=>(idx a0 v1.2.2.1).bind fun x4=>(vV x4).bind fun r5=>(bif r5 then(bif (!v1.2.1)then some true else(jB x4 v1.1).bind fun r6=>some (decide (0<r6))).bind fun b7=>some b7 else some false).bind fun b8=>bif b8 then j3 (x4,true,())else j3 (v1.1,v1.2.1,())else oR (some (v1.1,v1.2.1,()))) ((ByteArray.mk #[]),false,0,())
noncomputable def bK(a0:af):Option Bool:=some (lu false a0.ae 0 a0.Value (ByteArray.mk #[]))
noncomputable def lA(a0:af):Option Bool:=(bif (decide (1<=a0.ae))then some (decide (a0.ae<=1000))else some false).bind fun b1=>(bif b1 then some true else some (decide (a0.ae=1000000))).bind fun b2=>(bif b2 then some (decide (1<=((ByteArray.size a0.Value:Nat):Int)))else some false).bind fun b3=>(bif b3 then some (decide (((ByteArray.size a0.Value:Nat):Int)<=200))else some false).bind fun b4=>some b4
noncomputable def ql(a0:ByteArray)(a1:ByteArray):Option Bool:=bif (!decide (((ByteArray.size a0:Nat):Int)=((ByteArray.size a1:Nat):Int)))then some (decide (((ByteArray.size a0:Nat):Int)<((ByteArray.size a1:Nat):Int)))else some (jR a0 a1)
def fL(a0:af)(a1:af):Option Bool:=bif (!decide (a0.ae=a1.ae))then some (decide (a0.ae<a1.ae))else(ql a0.Value a1.Value).bind fun r1=>some r1
noncomputable def cO(a0:af)(a1:af):Option Bool:=some (decide (a0.Value=a1.Value))
def n9(a0:af)(a1:af):Option Bool:=(bK a0).bind fun r1=>(bif (!r1)then(cO a0 a1).bind fun r2=>some r2 else some false).bind fun b3=>(bif b3 then some (decide (a1.ae<=a0.ae))else some false).bind fun b4=>some b4
def kb(a0:af)(a1:af)(a2:af):Option Bool:=(n9 a0 a2).bind fun r1=>(bif r1 then some true else(n9 a1 a2).bind fun r2=>some r2).bind fun b3=>(bif b3 then some true else(bK a1).bind fun r4=>(bif (!r4)then(fL a2 a1).bind fun r5=>some r5 else some false).bind fun b6=>some b6).bind fun b7=>some b7
def im(a0:af)(a1:af):Option Bool:=(bK a0).bind fun r1=>(bif (!r1)then(cO a0 a1).bind fun r2=>some (!r2)else some false).bind fun b3=>(bif b3 then(fL a1 a0).bind fun r4=>some r4 else some false).bind fun b5=>some b5
def fg(a0:aj):Option Bool:=(bif (decide (a0.aq<0))then some true else some (decide (9<a0.aq))).bind fun b1=>(bif b1 then some true else some (decide (a0.bl<1))).bind fun b2=>(bif b2 then some true else some (decide (1000000<a0.bl))).bind fun b3=>(bif b3 then some true else some (decide (a0.aF<1))).bind fun b4=>(bif b4 then some true else some (decide (1000000<a0.aF))).bind fun b5=>(bif b5 then some true else(eK (av a0.ai)).bind fun r6=>some (!decide (r6=0))).bind fun b7=>(bif b7 then some true else(lA a0.aa).bind fun r8=>some (!r8)).bind fun b9=>bif b9 then some false else(bK a0.an).bind fun r10=>bif (decide (a0.bL=1))then(bif (decide (1000<a0.aa.ae))then some true else(bif (!r10)then(lA a0.an).bind fun r11=>some (!r11)else some false).bind fun b12=>some b12).bind fun b13=>bif b13 then some false else(bK a0.ax).bind fun r14=>(bif (!r14)then(bif r10 then some true else(lA a0.ax).bind fun r15=>some (!r15)).bind fun b16=>(bif b16 then some true else(fL a0.ax a0.an).bind fun r17=>some (!r17)).bind fun b18=>(bif b18 then some true else(cO a0.ax a0.an).bind fun r19=>some r19).bind fun b20=>some b20 else some false).bind fun b21=>bif b21 then some false else(bif (decide (a0.aS<0))then some true else some (decide (a0.bn<a0.aS))).bind fun b22=>(bif b22 then some true else some (decide (a0.aa.ae<a0.bn))).bind fun b23=>bif b23 then some false else(bif (decide (0<a0.bn))then(kb a0.an a0.ax (af.mk a0.bn a0.aa.Value)).bind fun r24=>some (!r24)else some false).bind fun b25=>bif b25 then some false else(bif (decide (a0.aS=0))then some true else(im a0.an (af.mk a0.aS a0.aa.Value)).bind fun r26=>(bif (!r26)then(im a0.ax (af.mk a0.aS a0.aa.Value)).bind fun r27=>some (!r27)else some false).bind fun b28=>some b28).bind fun b29=>some b29 else bif (decide (a0.bL=2))then(bif (decide (a0.aa.ae<=1000))then(lA a0.an).bind fun r30=>some r30 else some false).bind fun b31=>(bif b31 then(cO a0.an a0.aa).bind fun r32=>some r32 else some false).bind fun b33=>(bif b33 then(bK a0.ax).bind fun r34=>some r34 else some false).bind fun b35=>(bif b35 then some (decide (1<=a0.aS))else some false).bind fun b36=>(bif b36 then some (decide (a0.aS<=a0.bn))else some false).bind fun b37=>(bif b37 then some (decide (a0.bn<=a0.an.ae))else some false).bind fun b38=>(bif b38 then some (decide (a0.bn<=1000))else some false).bind fun b39=>some b39 else bif (decide (a0.bL=3))then(bif r10 then(bK a0.ax).bind fun r40=>some r40 else some false).bind fun b41=>(bif b41 then some (decide (1<=a0.aS))else some false).bind fun b42=>(bif b42 then some (decide (a0.aS<=a0.bn))else some false).bind fun b43=>(bif b43 then some (decide (a0.bn<=1000))else some false).bind fun b44=>some b44 else some false
def iR(a0:ab):Option aj:=aZ (fun(v1:aj×Unit)=>some (eT1 v1.1)) fun j2=>bif (decide (a0.aH=1))then(bK a0.au).bind fun r3=>(bif (!r3)then(cO a0.au a0.aa).bind fun r4=>some r4 else some false).bind fun b5=>bif b5 then j2 ({a0 with ai:=(av a0.ai),bL:=a0.aH,bn:=a0.au.ae},())else j2 ({a0 with ai:=(av a0.ai),bL:=a0.aH,bn:=0},())else bif (decide (a0.aH=2))then j2 ({a0 with ai:=(av a0.ai),bL:=a0.aH,ax:=zB},())else j2 ({a0 with ai:=(av a0.ai),bL:=a0.aH,an:=zB,ax:=zB},())
def lz(a0:ab):Option Bool:=(bif (decide (a0.aq<0))then some true else some (decide (9<a0.aq))).bind fun b1=>(bif b1 then some true else some (decide (a0.bl<1))).bind fun b2=>(bif b2 then some true else some (decide (1000000<a0.bl))).bind fun b3=>(bif b3 then some true else some (decide (a0.aF<0))).bind fun b4=>(bif b4 then some true else some (decide (1000000<a0.aF))).bind fun b5=>(bif b5 then some true else(eK (av a0.ai)).bind fun r6=>some (!decide (r6=0))).bind fun b7=>(bif b7 then some true else some (decide (200<((ByteArray.size a0.aY:Nat):Int)))).bind fun b8=>bif b8 then some false else aA (fun(v9:Int×Unit)=>bif (decide (v9.1<((a0.aw.length:Nat):Int)))then(idx a0.aw v9.1).bind fun x10=>aZ (fun(v11:Bool×Unit)=>bif v11.1 then oR (some false)else some (Sum.inl ((ay .i64 v9.1 1),()))) fun j12=>(fg (eT1 x10)).bind fun r13=>bif (!r13)then j12 (true,())else bif (!decide (x10.bl=a0.bl))then j12 (true,())else bif (decide (x10.aq=a0.aq))then j12 (true,())else bif (decide (0<v9.1))then(idx a0.aw (dm .i64 v9.1 1)).bind fun x14=>j12 ((decide (x10.aq<=x14.aq)),())else j12 (false,())else oR ((bK a0.aa).bind fun r15=>bif r15 then(bif (decide (a0.aH=1))then some (decide (a0.aF=0))else some false).bind fun b16=>(bif b16 then(bK a0.an).bind fun r17=>some r17 else some false).bind fun b18=>(bif b18 then(bK a0.ax).bind fun r19=>some r19 else some false).bind fun b20=>(bif b20 then(bK a0.au).bind fun r21=>some r21 else some false).bind fun b22=>(bif b22 then some (decide (a0.aS=0))else some false).bind fun b23=>(bif b23 then some (decide (a0.bn=0))else some false).bind fun b24=>some b24 else(iR (eT2 a0)).bind fun r25=>(fg (eT1 r25)).bind fun r26=>bif (!r26)then some false else(bif (!decide (a0.aH=2))then some (!decide (a0.aH=3))else some false).bind fun b27=>(bif b27 then some (!decide (a0.bn=0))else some false).bind fun b28=>bif b28 then some false else(bif (decide (a0.aH=3))then(bK a0.an).bind fun r29=>(bif (!r29)then some true else(bK a0.ax).bind fun r30=>some (!r30)).bind fun b31=>some b31 else some false).bind fun b32=>(bif b32 then some true else(bif (decide (a0.aH=2))then(bK a0.ax).bind fun r33=>some (!r33)else some false).bind fun b34=>some b34).bind fun b35=>bif b35 then some false else(bK a0.au).bind fun r36=>bif r36 then some true else(lA a0.au).bind fun r37=>(bif (!r37)then some true else some (decide (1000<a0.au.ae))).bind fun b38=>bif b38 then some false else bif (decide (a0.aH=1))then(kb a0.an a0.ax a0.au).bind fun r39=>some r39 else(cO a0.au a0.aa).bind fun r40=>some r40)) (0,())
def rN(a0:(List af)):Option af:=aA (fun(v1:Int×af×Unit)=>bif (decide (v1.1<((a0.length:Nat):Int)))then aZ (fun(v2:af×Unit)=>some (Sum.inl ((ay .i64 v1.1 1),v2.1,()))) fun j3=>(idx a0 v1.1).bind fun x4=>(bif (decide (v1.1=0))then some true else(fL v1.2.1 x4).bind fun r5=>some r5).bind fun b6=>bif b6 then j3 (x4,())else j3 (v1.2.1,())else oR (some v1.2.1)) (0,zB,())
def o0(a0:ab):Option ByteArray:=(bK a0.au).bind fun r1=>bif (!r1)then some a0.au.Value else bif (!decide (a0.aH=1))then some a0.aa.Value else bif (!decide (a0.aY=(ByteArray.mk #[])))then some a0.aY else aA (fun(v2:Int×(List af)×Unit)=>bif (decide (v2.1<((a0.aw.length:Nat):Int)))then(idx a0.aw v2.1).bind fun x3=>bif bp 24 (v2.2.1.length+List.length [x3.aa])then some (Sum.inl ((ay .i64 v2.1 1),(v2.2.1++[x3.aa]),()))else none else oR ((rN v2.2.1).bind fun r4=>some r4.Value)) (0,([]:List af),())
def mj(a0:ab):Option (List aj):=(bK a0.aa).bind fun r1=>bif r1 then some a0.aw else(iR (eT2 a0)).bind fun r2=>aA (fun(v3:Bool×Int×(List aj)×Unit)=>bif (decide (v3.2.1<((a0.aw.length:Nat):Int)))then(idx a0.aw v3.2.1).bind fun x4=>aZ (fun(v5:Bool×(List aj)×Unit)=>bif bp 176 (v5.2.1.length+List.length [(eT1 x4)])then some (Sum.inl (v5.1,(ay .i64 v3.2.1 1),(v5.2.1++[(eT1 x4)]),()))else none) fun j6=>(bif (!v3.1)then some (decide (r2.aq<x4.aq))else some false).bind fun b7=>bif b7 then bif bp 176 (v3.2.2.1.length+List.length [{r2 with aF:=(bB r2.aF 1),ai:=(av r2.ai)}])then j6 (true,(v3.2.2.1++[{r2 with aF:=(bB r2.aF 1),ai:=(av r2.ai)}]),())else none else j6 (v3.1,v3.2.2.1,())else oR (aZ (fun(v8:(List aj)×Unit)=>some v8.1) fun j9=>bif (!v3.1)then bif bp 176 (v3.2.2.1.length+List.length [{r2 with aF:=(bB r2.aF 1),ai:=(av r2.ai)}])then j9 ((v3.2.2.1++[{r2 with aF:=(bB r2.aF 1),ai:=(av r2.ai)}]),())else none else j9 (v3.2.2.1,()))) (false,0,([]:List aj),())
def ye(a0:(List af))(a1:af):Option (List af):=(bK a1).bind fun r1=>bif r1 then some a0 else aA (fun(v2:Int×Unit)=>aZ (fun(v3:Bool×Unit)=>bif v3.1 then some (Sum.inl ((ay .i64 v2.1 1),()))else oR (aZ (fun(v5:Bool×Unit)=>bif v5.1 then some a0 else bif dq 0 v2.1 (a0.length)then bif bp 24 (List.length ((a0.take (Int.toNat v2.1)).drop (Int.toNat 0)))then bif bp 24 (List.length ((a0.take (Int.toNat v2.1)).drop (Int.toNat 0))+List.length [a1])then bif dq v2.1 (a0.length:Int) (a0.length)then bif bp 24 (List.length (((a0.take (Int.toNat v2.1)).drop (Int.toNat 0))++[a1])+List.length ((a0.take (Int.toNat (a0.length:Int))).drop (Int.toNat v2.1)))then some ((((a0.take (Int.toNat v2.1)).drop (Int.toNat 0))++[a1])++((a0.take (Int.toNat (a0.length:Int))).drop (Int.toNat v2.1)))else none else none else none else none else none) fun j6=>bif (decide (v2.1<((a0.length:Nat):Int)))then(idx a0 v2.1).bind fun x7=>j6 ((lu false x7.ae a1.ae x7.Value a1.Value),())else j6 (false,()))) fun j4=>bif (decide (v2.1<((a0.length:Nat):Int)))then(idx a0 v2.1).bind fun x8=>(fL a1 x8).bind fun r9=>j4 (r9,())else j4 (false,())) (0,())
def pF(a0:(List aj)):Option (List af):=aA (fun(v1:(List af)×Int×Unit)=>bif (decide (v1.2.1<((a0.length:Nat):Int)))then aZ (fun(v2:(List af)×Unit)=>some (Sum.inl (v2.1,(ay .i64 v1.2.1 1),()))) fun j3=>(idx a0 v1.2.1).bind fun x4=>(fg (eT1 x4)).bind fun r5=>bif (!r5)then j3 (v1.1,())else aZ (fun(v6:(List af)×Unit)=>aA (fun(v8:(List af)×Int×Unit)=>bif (decide (v8.2.1<((v6.1.length:Nat):Int)))then(idx v6.1 v8.2.1).bind fun x9=>(ye v8.1 x9).bind fun r10=>some (Sum.inl (r10,(ay .i64 v8.2.1 1),()))else oR (j3 (v8.1,()))) (v1.1,0,())) fun j7=>bif (!decide (x4.bL=1))then j7 ([x4.an,(af.mk 1000000 x4.aa.Value)],())else j7 ([x4.aa,x4.an,x4.ax],())else oR (some v1.1)) (([]:List af),0,())
noncomputable def qP(a0:af):Option af:=aZ (fun(v1:af×Unit)=>some v1.1) fun j2=>bif (decide (1000<=a0.ae))then j2 ((af.mk 1000000 a0.Value),())else j2 (a0,())
def qd(a0:aj)(a1:af):Option Bool:=(fg (eT1 a0)).bind fun r1=>(bif (!r1)then some true else(bK a1).bind fun r2=>some r2).bind fun b3=>bif b3 then some false else bif (decide (a0.bL=3))then(cO a0.aa a1).bind fun r4=>some r4 else(kb a0.an a0.ax a1).bind fun r5=>some r5
def rM(a0:aj)(a1:af):Option Bool:=(fg (eT1 a0)).bind fun r1=>(bif (!r1)then some true else(bK a1).bind fun r2=>some r2).bind fun b3=>bif b3 then some false else bif (decide (a0.bL=1))then(n9 a0.aa a1).bind fun r4=>some r4 else(cO a0.aa a1).bind fun r5=>some r5
noncomputable def fQ(a0:(List aj))(a1:(List Bool)):Option Int:=aA (fun(v1:Int×Int×Unit)=>bif (decide (v1.2.1<((a0.length:Nat):Int)))then aZ (fun(v2:Int×Unit)=>some (Sum.inl (v2.1,(ay .i64 v1.2.1 1),()))) fun j3=>(idx a0 v1.2.1).bind fun x4=>(bif (decide (v1.2.1<((a1.length:Nat):Int)))then(idx a1 v1.2.1).bind fun x5=>some x5 else some false).bind fun b6=>(bif b6 then some (decide (0<=x4.aq))else some false).bind fun b7=>(bif b7 then some (decide (x4.aq<=9))else some false).bind fun b8=>bif b8 then if(bq .u64 x4.aq)<0 then none else j3 ((oi .i64 v1.1 (bS .i64 1 (bq .u64 x4.aq))),())else j3 (v1.1,())else oR (some v1.1)) (0,0,())
def yd(a0:(List aj))(a1:af):Option (Int×Int×Unit):=aA (fun(v1:Int×(List Bool)×(List Bool)×Unit)=>bif (decide (v1.1<((a0.length:Nat):Int)))then(idx a0 v1.1).bind fun x2=>(qd (eT1 x2) a1).bind fun r3=>(bif r3 then some true else(rM (eT1 x2) a1).bind fun r4=>some r4).bind fun b5=>bif bp 1 (v1.2.1.length+List.length [b5])then bif bp 1 (v1.2.2.1.length+List.length [r3])then some (Sum.inl ((ay .i64 v1.1 1),(v1.2.1++[b5]),(v1.2.2.1++[r3]),()))else none else none else oR ((fQ a0 v1.2.1).bind fun r6=>(fQ a0 v1.2.2.1).bind fun r7=>some (r6,r7,()))) (0,([]:List Bool),([]:List Bool),())
def iS(a0:Int)(a1:al)(a2:(List aj)):Option aU:=bif decide ((10:Int)=10)&&decide ((0:Int)<=10)&&bp 64 (Int.toNat 10)then(bif (decide (a0<0))then some true else some (decide (9<a0))).bind fun b1=>bif b1 then some (aU.mk (List.replicate (Int.toNat 10) (aR.mk false (al.mk 0 ([]:List Int) ([]:List al)))))else(idx (List.replicate (Int.toNat 10) (aR.mk false (al.mk 0 ([]:List Int) ([]:List al)))) a0).bind fun x2=>((List.replicate (Int.toNat 10) (aR.mk false (al.mk 0 ([]:List Int) ([]:List al))))[(Int.toNat a0)]?).bind fun x3=>aA (fun(v4:Int×aU×(List aR)×Unit)=>bif (decide (v4.1<((a2.length:Nat):Int)))then aZ (fun(v5:aU×(List aR)×Unit)=>some (Sum.inl ((ay .i64 v4.1 1),(aU.mk ([]:List aR)),v5.2.1,()))) fun j6=>(idx a2 v4.1).bind fun x7=>(fg (eT1 x7)).bind fun r8=>(bif r8 then(idx v4.2.2.1 x7.aq).bind fun x9=>(v4.2.2.1[(Int.toNat x7.aq)]?).bind fun x10=>(v4.2.2.1[(Int.toNat x7.aq)]?).bind fun x11=>some (!x11.dG)else some false).bind fun b12=>bif b12 then(idx v4.2.2.1 x7.aq).bind fun x13=>(v4.2.2.1[(Int.toNat x7.aq)]?).bind fun x14=>j6 ((aU.mk ([]:List aR)),(v4.2.2.1.set (Int.toNat x7.aq) (aR.mk true (av x7.ai))),())else j6 ((aU.mk ([]:List aR)),v4.2.2.1,())else oR (some (aU.mk v4.2.2.1))) (0,(aU.mk ([]:List aR)),((List.replicate (Int.toNat 10) (aR.mk false (al.mk 0 ([]:List Int) ([]:List al)))).set (Int.toNat a0) (aR.mk true (av a1))),())else none
def sP(a0:Int)(a1:al)(a2:(List aj))(a3:af):Option Bool:=(yd a2 a3).bind fun r1=>(iS a0 (av a1) a2).bind fun r2=>(pH r2 a0 r1.1 r1.2.1).bind fun r3=>some r3
def tK(a0:Int)(a1:al)(a2:(List aj))(a3:af)(a4:af)(a5:ByteArray):Option af:=(pF a2).bind fun r1=>aA (fun(v2:Int×af×Unit)=>bif (decide (v2.1<((r1.length:Nat):Int)))then aZ (fun(v3:af×Unit)=>some (Sum.inl ((ay .i64 v2.1 1),v3.1,()))) fun j4=>(idx r1 v2.1).bind fun x5=>aZ (fun(v6:Bool×Unit)=>bif v6.1 then j4 (v2.2.1,())else(sP a0 (av a1) a2 x5).bind fun r8=>bif r8 then oR (some x5)else j4 (v2.2.1,())) fun j7=>bif (!decide (a5=(ByteArray.mk #[])))then bif (!decide (x5.Value=a5))then j7 (true,())else(qP a3).bind fun r9=>(qP a4).bind fun r10=>(kb r9 r10 x5).bind fun r11=>j7 (r11,())else(qP a3).bind fun r12=>(qP a4).bind fun r13=>(kb r12 r13 x5).bind fun r14=>j7 (r14,())else oR (some zB)) (0,zB,())
noncomputable def uA(a0:af):Option af:=aZ (fun(v1:af×Unit)=>some v1.1) fun j2=>bif (decide (1000<a0.ae))then j2 ((af.mk 1000 a0.Value),())else j2 (a0,())
def Cg(a0:af)(a1:af)(a2:af):Option (af×af×Unit):=(bK a2).bind fun r1=>bif r1 then some (a0,a1,())else(bK a0).bind fun r2=>bif r2 then some (a2,a1,())else(fL a0 a2).bind fun r3=>bif r3 then(cO a0 a2).bind fun r4=>bif (!r4)then some (a2,a0,())else aZ (fun(v5:af×Unit)=>some (a2,v5.1,())) fun j6=>(cO a1 a2).bind fun r7=>bif r7 then j6 (zB,())else j6 (a1,())else(fL a2 a0).bind fun r8=>(bif r8 then(cO a2 a0).bind fun r9=>some (!r9)else some false).bind fun b10=>(bif b10 then(bK a1).bind fun r11=>(bif r11 then some true else(fL a1 a2).bind fun r12=>some r12).bind fun b13=>some b13 else some false).bind fun b14=>bif b14 then some (a0,a2,())else some (a0,a1,())
def uC(a0:ByteArray)(a1:Int)(a2:af)(a3:af):Option Int:=aA (fun(v1:Int×Int×Unit)=>bif (decide (v1.2.1<2))then aZ (fun(v2:Int×Unit)=>some (Sum.inl (v2.1,(ay .i64 v1.2.1 1),()))) fun j3=>(idx [a2,a3] v1.2.1).bind fun x4=>(lA x4).bind fun r5=>(bif r5 then(im x4 (af.mk v1.1 a0)).bind fun r6=>some r6 else some false).bind fun b7=>bif b7 then(im x4 (af.mk x4.ae a0)).bind fun r8=>bif r8 then j3 ((ay .i64 x4.ae 1),())else j3 (x4.ae,())else j3 (v1.1,())else oR (some v1.1)) ((bB a1 1),0,())
def wM(a0:ab):Option ab:=(bif (decide (a0.aH=3))then some true else(bK a0.aa).bind fun r1=>some r1).bind fun b2=>bif b2 then some (eT2 a0)else aZ (fun(v3:ByteArray×Unit)=>(mj (eT2 a0)).bind fun r5=>(tK a0.aq (av a0.ai) r5 a0.an a0.ax v3.1).bind fun r6=>(uA r6).bind fun r7=>(Cg a0.an a0.ax r7).bind fun r8=>aZ (fun(v9:ab×Unit)=>some (eT2 v9.1)) fun j10=>(bif (decide (a0.aH=1))then some (!decide (a0.aS=0))else some false).bind fun b11=>bif b11 then(iR {a0 with ai:=(av a0.ai),an:=r8.1,ax:=r8.2.1}).bind fun r12=>(uC a0.aa.Value a0.aS r8.1 r8.2.1).bind fun r13=>bif (decide (r12.bn<r13))then j10 ({a0 with ai:=(av a0.ai),an:=r8.1,ax:=r8.2.1,aS:=0},())else j10 ({a0 with ai:=(av a0.ai),an:=r8.1,ax:=r8.2.1,aS:=r13},())else j10 ({a0 with ai:=(av a0.ai),an:=r8.1,ax:=r8.2.1},())) fun j4=>bif (decide (a0.aH=2))then j4 (a0.aa.Value,())else j4 ((ByteArray.mk #[]),())
noncomputable def oB(a0:ab)(a1:ab):Option Bool:=(bif (decide (a0.aH=a1.aH))then some (lu false a0.aa.ae a1.aa.ae a0.aa.Value a1.aa.Value)else some false).bind fun b1=>(bif b1 then some (lu false a0.an.ae a1.an.ae a0.an.Value a1.an.Value)else some false).bind fun b2=>(bif b2 then some (lu false a0.ax.ae a1.ax.ae a0.ax.Value a1.ax.Value)else some false).bind fun b3=>(bif b3 then some (lu false a0.au.ae a1.au.ae a0.au.Value a1.au.Value)else some false).bind fun b4=>(bif b4 then some (decide (a0.aS=a1.aS))else some false).bind fun b5=>(bif b5 then some (decide (a0.bn=a1.bn))else some false).bind fun b6=>some b6
def rL(a0:Int)(a1:al)(a2:(List aj))(a3:af):Option Bool:=(yd a2 a3).bind fun r1=>(iS a0 (av a1) a2).bind fun r2=>(iT r2 a0 r1.2.1).bind fun r3=>some r3
def pE(a0:Int)(a1:al)(a2:(List aj))(a3:af):Option af:=(pF a2).bind fun r1=>aA (fun(v2:Int×af×Unit)=>bif (decide (v2.1<((r1.length:Nat):Int)))then(idx r1 v2.1).bind fun x3=>(bif (decide (x3.ae<=1000))then(fL a3 x3).bind fun r4=>some r4 else some false).bind fun b5=>(bif b5 then(rL a0 (av a1) a2 x3).bind fun r6=>some r6 else some false).bind fun b7=>bif b7 then oR (some x3)else some (Sum.inl ((ay .i64 v2.1 1),v2.2.1,()))else oR (some zB)) (0,zB,())
def uV(a0:ab):Option ab:=(bif (!decide (a0.aH=1))then some true else(bK a0.aa).bind fun r1=>some r1).bind fun b2=>bif b2 then some (eT2 a0)else(mj (eT2 a0)).bind fun r3=>(pE a0.aq (av a0.ai) r3 a0.au).bind fun r4=>(bK r4).bind fun r5=>bif r5 then some (eT2 a0)else aZ (fun(v6:ab×Unit)=>aZ (fun(v8:ab×Unit)=>some (eT2 v8.1)) fun j9=>(bif (decide (v6.1.aS=0))then(cO v6.1.aa r4).bind fun r10=>some r10 else some false).bind fun b11=>bif b11 then(uC r4.Value v6.1.aa.ae v6.1.an v6.1.ax).bind fun r12=>bif (decide (r12<=r4.ae))then j9 ({v6.1 with ai:=(av v6.1.ai),aS:=r12},())else j9 ((eT2 v6.1),())else j9 ((eT2 v6.1),())) fun j7=>(fL a0.aa r4).bind fun r13=>bif r13 then aZ (fun(v14:ab×Unit)=>j7 ({v14.1 with ai:=(av v14.1.ai),aa:=r4},())) fun j15=>(cO a0.aa r4).bind fun r16=>bif (!r16)then j15 ({a0 with ai:=(av a0.ai),au:=r4,aS:=0},())else j15 ({a0 with ai:=(av a0.ai),au:=r4},())else j7 ({a0 with ai:=(av a0.ai),au:=r4},())
def uB(a0:(List aj)):Option (List ByteArray):=aA (fun(v1:(List ByteArray)×Int×Unit)=>bif (decide (v1.2.1<((a0.length:Nat):Int)))then aZ (fun(v2:(List ByteArray)×Unit)=>some (Sum.inl (v2.1,(ay .i64 v1.2.1 1),()))) fun j3=>(idx a0 v1.2.1).bind fun x4=>(fg (eT1 x4)).bind fun r5=>bif (!r5)then j3 (v1.1,())else aA (fun(v6:Int×Unit)=>aZ (fun(v7:Bool×Unit)=>bif v7.1 then some (Sum.inl ((ay .i64 v6.1 1),()))else oR (aZ (fun(v9:Bool×Unit)=>bif v9.1 then bif dq 0 v6.1 (v1.1.length)then bif bp 16 (List.length ((v1.1.take (Int.toNat v6.1)).drop (Int.toNat 0)))then bif bp 16 (List.length ((v1.1.take (Int.toNat v6.1)).drop (Int.toNat 0))+List.length [x4.aa.Value])then bif dq v6.1 (v1.1.length:Int) (v1.1.length)then bif bp 16 (List.length (((v1.1.take (Int.toNat v6.1)).drop (Int.toNat 0))++[x4.aa.Value])+List.length ((v1.1.take (Int.toNat (v1.1.length:Int))).drop (Int.toNat v6.1)))then j3 (((((v1.1.take (Int.toNat v6.1)).drop (Int.toNat 0))++[x4.aa.Value])++((v1.1.take (Int.toNat (v1.1.length:Int))).drop (Int.toNat v6.1))),())else none else none else none else none else none else j3 (v1.1,())) fun j10=>bif (decide (v6.1=((v1.1.length:Nat):Int)))then j10 (true,())else(idx v1.1 v6.1).bind fun x11=>j10 ((!decide (x11=x4.aa.Value)),()))) fun j8=>bif (decide (v6.1<((v1.1.length:Nat):Int)))then(idx v1.1 v6.1).bind fun x12=>(ql x12 x4.aa.Value).bind fun r13=>j8 (r13,())else j8 (false,())) (0,())else oR (some v1.1)) (([]:List ByteArray),0,())
def kC(a0:(List aj))(a1:ByteArray):Option (List Int):=aA (fun(v1:(List Int)×Int×Unit)=>bif (decide (v1.2.1<((a0.length:Nat):Int)))then aZ (fun(v2:(List Int)×Unit)=>some (Sum.inl (v2.1,(ay .i64 v1.2.1 1),()))) fun j3=>(idx a0 v1.2.1).bind fun x4=>(fg (eT1 x4)).bind fun r5=>(bif (!r5)then some true else some (!decide (x4.aa.Value=a1))).bind fun b6=>(bif b6 then some true else some (decide (x4.aS=0))).bind fun b7=>bif b7 then j3 (v1.1,())else aA (fun(v8:(List Int)×Int×Unit)=>bif (decide (v8.2.1<2))then aZ (fun(v9:(List Int)×Unit)=>some (Sum.inl (v9.1,(ay .i64 v8.2.1 1),()))) fun j10=>(idx [x4.aS,x4.bn] v8.2.1).bind fun x11=>aA (fun(v12:Int×Unit)=>(bif (decide (v12.1<((v8.1.length:Nat):Int)))then(idx v8.1 v12.1).bind fun x13=>some (decide (x13<x11))else some false).bind fun b14=>bif b14 then some (Sum.inl ((ay .i64 v12.1 1),()))else oR ((bif (decide (v12.1=((v8.1.length:Nat):Int)))then some true else(idx v8.1 v12.1).bind fun x15=>some (!decide (x15=x11))).bind fun b16=>bif b16 then bif dq 0 v12.1 (v8.1.length)then bif bp 8 (List.length ((v8.1.take (Int.toNat v12.1)).drop (Int.toNat 0)))then bif bp 8 (List.length ((v8.1.take (Int.toNat v12.1)).drop (Int.toNat 0))+List.length [x11])then bif dq v12.1 (v8.1.length:Int) (v8.1.length)then bif bp 8 (List.length (((v8.1.take (Int.toNat v12.1)).drop (Int.toNat 0))++[x11])+List.length ((v8.1.take (Int.toNat (v8.1.length:Int))).drop (Int.toNat v12.1)))then j10 (((((v8.1.take (Int.toNat v12.1)).drop (Int.toNat 0))++[x11])++((v8.1.take (Int.toNat (v8.1.length:Int))).drop (Int.toNat v12.1))),())else none else none else none else none else none else j10 (v8.1,()))) (0,())else oR (j3 (v8.1,()))) (v1.1,0,())else oR (some v1.1)) (([]:List Int),0,())
def yb(a0:af)(a1:af)(a2:Int)(a3:ByteArray):Option Bool:=(im a0 (af.mk a2 a3)).bind fun r1=>(bif (!r1)then(im a1 (af.mk a2 a3)).bind fun r2=>some (!r2)else some false).bind fun b3=>some b3
def qQ(a0:aj)(a1:ByteArray)(a2:Int)(a3:Int):Option Bool:=(fg (eT1 a0)).bind fun r1=>(bif (!r1)then some true else some (decide (a2<1))).bind fun b2=>(bif b2 then some true else some (decide (a3<a2))).bind fun b3=>(bif b3 then some true else some (decide (a0.bL=1))).bind fun b4=>(bif b4 then some true else some (!decide (a0.aa.Value=a1))).bind fun b5=>(bif b5 then some true else some (decide (a2<a0.aS))).bind fun b6=>bif b6 then some false else(bif (decide (a0.bL=3))then some true else some (decide (a3<=a0.bn))).bind fun b7=>some b7
def sE(a0:aj)(a1:ByteArray)(a2:Int)(a3:Int):Option Bool:=(fg (eT1 a0)).bind fun r1=>(bif (!r1)then some true else some (decide (a2<1))).bind fun b2=>(bif b2 then some true else some (decide (a3<a2))).bind fun b3=>(bif b3 then some true else some (!decide (a0.aa.Value=a1))).bind fun b4=>(bif b4 then some true else some (decide (a0.aS=0))).bind fun b5=>(bif b5 then some true else some (decide (a2<a0.aS))).bind fun b6=>bif b6 then some false else(bif (!decide (a0.bL=1))then some true else some (decide (a3<=a0.bn))).bind fun b7=>some b7
def ya(a0:(List aj))(a1:ByteArray)(a2:Int)(a3:Int):Option (Int×Int×Unit):=aA (fun(v1:Int×(List Bool)×(List Bool)×Unit)=>bif (decide (v1.1<((a0.length:Nat):Int)))then(idx a0 v1.1).bind fun x2=>(qQ (eT1 x2) a1 a2 a3).bind fun r3=>(bif r3 then some true else(sE (eT1 x2) a1 a2 a3).bind fun r4=>some r4).bind fun b5=>bif bp 1 (v1.2.1.length+List.length [b5])then bif bp 1 (v1.2.2.1.length+List.length [r3])then some (Sum.inl ((ay .i64 v1.1 1),(v1.2.1++[b5]),(v1.2.2.1++[r3]),()))else none else none else oR ((fQ a0 v1.2.1).bind fun r6=>(fQ a0 v1.2.2.1).bind fun r7=>some (r6,r7,()))) (0,([]:List Bool),([]:List Bool),())
def kZ(a0:Int)(a1:al)(a2:(List aj))(a3:ByteArray)(a4:Int)(a5:Int):Option Bool:=(ya a2 a3 a4 a5).bind fun r1=>(iS a0 (av a1) a2).bind fun r2=>(pH r2 a0 r1.1 r1.2.1).bind fun r3=>some r3
def sd(a0:Int)(a1:al)(a2:(List aj))(a3:af)(a4:af):Option (ByteArray×Int×Int×Bool×Unit):=(uB a2).bind fun r1=>aA (fun(v2:Int×af×Unit)=>bif (decide (v2.1<((r1.length:Nat):Int)))then(idx r1 v2.1).bind fun x3=>(kC a2 x3).bind fun r4=>aA (fun(v5:Int×af×Unit)=>bif (decide (v5.1<((r4.length:Nat):Int)))then aZ (fun(v6:af×Unit)=>some (Sum.inl ((ay .i64 v5.1 1),v6.1,()))) fun j7=>(idx r4 v5.1).bind fun x8=>(fL v5.2.1 (af.mk x8 x3)).bind fun r9=>(bif r9 then(yb a3 a4 x8 x3).bind fun r10=>some r10 else some false).bind fun b11=>(bif b11 then(kZ a0 (av a1) a2 x3 x8 x8).bind fun r12=>some r12 else some false).bind fun b13=>bif b13 then j7 ((af.mk x8 x3),())else j7 (v5.2.1,())else oR (some (Sum.inl ((ay .i64 v2.1 1),v5.2.1,())))) (0,v2.2.1,())else oR ((bK v2.2.1).bind fun r14=>bif r14 then some ((ByteArray.mk #[]),0,0,false,())else(kC a2 v2.2.1.Value).bind fun r15=>aZ (fun(v16:Int×Unit)=>some (v2.2.1.Value,v16.1,v2.2.1.ae,true,())) fun j17=>aA (fun(v18:Int×Int×Unit)=>bif (decide (0<=v18.2.1))then aZ (fun(v19:Int×Unit)=>some (Sum.inl (v19.1,(dm .i64 v18.2.1 1),()))) fun j20=>(idx r15 v18.2.1).bind fun x21=>bif (decide (v18.1<=x21))then j20 (v18.1,())else(yb a3 a4 x21 v2.2.1.Value).bind fun r22=>(bif (!r22)then some true else(kZ a0 (av a1) a2 v2.2.1.Value x21 v2.2.1.ae).bind fun r23=>some (!r23)).bind fun b24=>bif b24 then oR (j17 (v18.1,()))else j20 (x21,())else oR (j17 (v18.1,()))) (v2.2.1.ae,(dm .i64 ((r15.length:Nat):Int) 1),()))) (0,zB,())
def yc(a0:Int)(a1:al)(a2:(List aj))(a3:ByteArray)(a4:Int)(a5:Int):Option Int:=(kC a2 a3).bind fun r1=>aZ (fun(v2:Int×Unit)=>some v2.1) fun j3=>aA (fun(v4:Int×Int×Unit)=>bif (decide (0<=v4.2.1))then aZ (fun(v5:Int×Unit)=>some (Sum.inl (v5.1,(dm .i64 v4.2.1 1),()))) fun j6=>(idx r1 v4.2.1).bind fun x7=>bif (decide (v4.1<=x7))then j6 (v4.1,())else(idx r1 v4.2.1).bind fun x8=>(kZ a0 (av a1) a2 a3 x8 a5).bind fun r9=>bif (!r9)then oR (j3 (v4.1,()))else(idx r1 v4.2.1).bind fun x10=>j6 (x10,())else oR (j3 (v4.1,()))) (a4,(dm .i64 ((r1.length:Nat):Int) 1),())
def qO(a0:Int)(a1:al)(a2:(List aj))(a3:ByteArray)(a4:Int)(a5:Int):Option (Int×Int×Unit):=(kC a2 a3).bind fun r1=>aZ (fun(v2:Int×Int×Unit)=>(yc a0 (av a1) a2 a3 v2.1 v2.2.1).bind fun r4=>some (r4,v2.2.1,())) fun j3=>aA (fun(v5:Int×Int×Int×Unit)=>(bif (decide (0<=v5.2.2.1))then(idx r1 v5.2.2.1).bind fun x6=>some (decide (v5.2.1<x6))else some false).bind fun b7=>bif b7 then(idx r1 v5.2.2.1).bind fun x8=>(kZ a0 (av a1) a2 a3 x8 x8).bind fun r9=>bif (!r9)then some (Sum.inl (v5.1,v5.2.1,(dm .i64 v5.2.2.1 1),()))else(yc a0 (av a1) a2 a3 x8 x8).bind fun r10=>aZ (fun(v11:Int×Unit)=>oR (j3 (v11.1,x8,()))) fun j12=>bif (decide (v5.2.1<(dm .i64 r10 1)))then j12 (r10,())else j12 ((cm v5.1 r10),())else oR (j3 (v5.1,v5.2.1,()))) (a4,a5,(dm .i64 ((r1.length:Nat):Int) 1),())
def uW(a0:ab):Option ab:=aZ (fun(v1:ab×ab×Unit)=>some (eT2 v1.1)) fun j2=>bif (decide (a0.aH=1))then(mj (eT2 a0)).bind fun r3=>(sd a0.aq (av a0.ai) r3 a0.an a0.ax).bind fun r4=>bif (!r4.2.2.2.1)then some (eT2 a0)else aZ (fun(v5:ab×Unit)=>aZ (fun(v7:ab×Unit)=>j2 ({v7.1 with ai:=(av v7.1.ai),aH:=2,ax:=zB,au:=(af.mk r4.2.2.1 r4.1),aS:=r4.2.1,bn:=r4.2.2.1},(ab.mk 0 0 0 (al.mk 0 ([]:List Int) ([]:List al)) 0 zB zB zB zB 0 0 (ByteArray.mk #[]) ([]:List aj)),())) fun j8=>(n9 v5.1.an (af.mk r4.2.2.1 r4.1)).bind fun r9=>bif (!r9)then j8 ({v5.1 with ai:=(av v5.1.ai),an:=(af.mk r4.2.2.1 r4.1)},())else j8 ((eT2 v5.1),())) fun j6=>(cO a0.aa (af.mk r4.2.2.1 r4.1)).bind fun r10=>(bif (!r10)then some true else(fL a0.aa (af.mk r4.2.2.1 r4.1)).bind fun r11=>some r11).bind fun b12=>bif b12 then j6 ({a0 with ai:=(av a0.ai),aa:=(af.mk (bB a0.aa.ae r4.2.2.1) r4.1)},())else j6 ((eT2 a0),())else bif (decide (a0.aH=2))then(mj (eT2 a0)).bind fun r13=>(qO a0.aq (av a0.ai) r13 a0.aa.Value a0.aS a0.bn).bind fun r14=>j2 ({a0 with ai:=(av a0.ai),aa:=(af.mk (bB a0.aa.ae r14.2.1) a0.aa.Value),an:=(af.mk (bB a0.an.ae r14.2.1) a0.an.Value),au:=(af.mk (bB a0.au.ae r14.2.1) a0.aa.Value),aS:=r14.1,bn:=r14.2.1},(ab.mk 0 0 0 (al.mk 0 ([]:List Int) ([]:List al)) 0 zB zB zB zB 0 0 (ByteArray.mk #[]) ([]:List aj)),())else j2 ((eT2 a0),(ab.mk 0 0 0 (al.mk 0 ([]:List Int) ([]:List al)) 0 zB zB zB zB 0 0 (ByteArray.mk #[]) ([]:List aj)),())
def oC(a0:Int)(a1:al)(a2:(List aj))(a3:ByteArray)(a4:Int)(a5:Int):Option Bool:=(ya a2 a3 a4 a5).bind fun r1=>(iS a0 (av a1) a2).bind fun r2=>(iT r2 a0 r1.2.1).bind fun r3=>some r3
def se(a0:Int)(a1:al)(a2:(List aj))(a3:ByteArray):Option (Int×Int×Bool×Unit):=(kC a2 a3).bind fun r1=>aA (fun(v2:Int×Unit)=>bif (decide (0<=v2.1))then(idx r1 v2.1).bind fun x3=>(oC a0 (av a1) a2 a3 x3 x3).bind fun r4=>bif (!r4)then some (Sum.inl ((dm .i64 v2.1 1),()))else aA (fun(v5:Int×Int×Unit)=>aZ (fun(v6:Bool×Unit)=>bif v6.1 then(idx r1 v5.2.1).bind fun x8=>some (Sum.inl (x8,(dm .i64 v5.2.1 1),()))else oR (oR (some (v5.1,x3,true,())))) fun j7=>bif (decide (0<=v5.2.1))then(idx r1 v5.2.1).bind fun x9=>(oC a0 (av a1) a2 a3 x9 x3).bind fun r10=>j7 (r10,())else j7 (false,())) (x3,(dm .i64 v2.1 1),())else oR (some (0,0,false,()))) ((dm .i64 ((r1.length:Nat):Int) 1),())
def Av(a0:ab):Option ab:=bif (!decide (a0.aH=2))then some (eT2 a0)else(mj (eT2 a0)).bind fun r1=>(se a0.aq (av a0.ai) r1 a0.aa.Value).bind fun r2=>bif (!r2.2.2.1)then some (eT2 a0)else some (ab.mk a0.aq a0.bl a0.aF (av a0.ai) 3 (af.mk r2.2.1 a0.aa.Value) zB zB zB r2.1 r2.2.1 a0.aY a0.aw)
def mU(a0:aj):Option Int:=(fg (eT1 a0)).bind fun r1=>bif (!r1)then some 0 else bif (decide (a0.bL=3))then some 1000000 else some a0.aa.ae
def vU(a0:ab)(a1:Int):Option Bool:=aA (fun(v1:Int×(List Bool)×Unit)=>bif (decide (v1.1<((a0.aw.length:Nat):Int)))then(idx a0.aw v1.1).bind fun x2=>(mU (eT1 x2)).bind fun r3=>bif bp 1 (v1.2.1.length+List.length [(decide (a1<r3))])then some (Sum.inl ((ay .i64 v1.1 1),(v1.2.1++[(decide (a1<r3))]),()))else none else oR ((mj (eT2 a0)).bind fun r4=>(iS a0.aq (av a0.ai) r4).bind fun r5=>(fQ a0.aw v1.2.1).bind fun r6=>(qU r5 a0.aq r6).bind fun r7=>some r7)) (0,([]:List Bool),())
def zj(a0:ab):Option ab:=(bif (decide (a0.aH=3))then some true else(vU (eT2 a0) a0.aa.ae).bind fun r1=>some (!r1)).bind fun b2=>bif b2 then some (eT2 a0)else aA (fun(v3:Int×Int×Unit)=>bif (decide (v3.2.1<((a0.aw.length:Nat):Int)))then aZ (fun(v4:Int×Unit)=>some (Sum.inl (v4.1,(ay .i64 v3.2.1 1),()))) fun j5=>(idx a0.aw v3.2.1).bind fun x6=>(mU (eT1 x6)).bind fun r7=>(bif (decide (a0.aa.ae<r7))then some (decide (r7<v3.1))else some false).bind fun b8=>(bif b8 then(vU (eT2 a0) r7).bind fun r9=>some (!r9)else some false).bind fun b10=>bif b10 then j5 (r7,())else j5 (v3.1,())else oR (aZ (fun(v11:ByteArray×Unit)=>aZ (fun(v13:ab×Unit)=>some {v13.1 with ai:=(av v13.1.ai),aa:=(af.mk (bB v13.1.aa.ae (cm v3.1 1000)) v11.1)}) fun j14=>bif (!decide (v11.1=a0.aa.Value))then j14 ({a0 with ai:=(av a0.ai),aS:=0},())else j14 ((eT2 a0),())) fun j12=>bif (decide (a0.aH=1))then(o0 (eT2 a0)).bind fun r15=>j12 (r15,())else j12 (a0.aa.Value,()))) (1000000,0,())
def xZ(a0:ab):Option ab:=(lz (eT2 a0)).bind fun r1=>bif (!r1)then some (eT2 a0)else aA (fun(v2:ab×ab×Unit)=>(wM (eT2 v2.1)).bind fun r3=>aZ (fun(v4:ab×Unit)=>aZ (fun(v6:ab×Unit)=>aZ (fun(v8:ab×Unit)=>aZ (fun(v10:ab×Unit)=>(oB (eT2 v2.1) (eT2 v10.1)).bind fun r12=>bif r12 then aZ (fun(v13:ab×Unit)=>oR (some (eT2 v13.1))) fun j14=>(bK v10.1.aa).bind fun r15=>bif (!r15)then j14 ({v10.1 with aF:=(bB v10.1.aF 1),ai:=(av v10.1.ai)},())else j14 ((eT2 v10.1),())else some (Sum.inl ((eT2 v10.1),(eT2 v2.2.1),()))) fun j11=>(oB (eT2 v2.1) (eT2 v8.1)).bind fun r16=>bif r16 then(zj (eT2 v8.1)).bind fun r17=>j11 ((eT2 r17),())else j11 ((eT2 v8.1),())) fun j9=>(oB (eT2 v2.1) (eT2 v6.1)).bind fun r18=>bif r18 then(Av (eT2 v6.1)).bind fun r19=>j9 ((eT2 r19),())else j9 ((eT2 v6.1),())) fun j7=>(oB (eT2 v2.1) (eT2 v4.1)).bind fun r20=>bif r20 then(uW (eT2 v4.1)).bind fun r21=>j7 ((eT2 r21),())else j7 ((eT2 v4.1),())) fun j5=>(oB (eT2 v2.1) (eT2 r3)).bind fun r22=>bif r22 then(uV (eT2 r3)).bind fun r23=>j5 ((eT2 r23),())else j5 ((eT2 r3),())) ((eT2 a0),(ab.mk 0 0 0 (al.mk 0 ([]:List Int) ([]:List al)) 0 zB zB zB zB 0 0 (ByteArray.mk #[]) ([]:List aj)),())
def Ch(a0:aj)(a1:aj):Option Bool:=(bif (decide (a0.aq=a1.aq))then some (decide (a0.bl=a1.bl))else some false).bind fun b1=>(bif b1 then some (decide (a0.aF=a1.aF))else some false).bind fun b2=>(bif b2 then(tM (av a0.ai) (av a1.ai)).bind fun r3=>some r3 else some false).bind fun b4=>(bif b4 then some (decide (a0.bL=a1.bL))else some false).bind fun b5=>(bif b5 then some (lu false a0.aa.ae a1.aa.ae a0.aa.Value a1.aa.Value)else some false).bind fun b6=>(bif b6 then some (lu false a0.an.ae a1.an.ae a0.an.Value a1.an.Value)else some false).bind fun b7=>(bif b7 then some (lu false a0.ax.ae a1.ax.ae a0.ax.Value a1.ax.Value)else some false).bind fun b8=>(bif b8 then some (decide (a0.aS=a1.aS))else some false).bind fun b9=>(bif b9 then some (decide (a0.bn=a1.bn))else some false).bind fun b10=>some b10
def lW(a0:ab)(a1:ab):Option ab:=(xZ (eT2 a1)).bind fun r1=>(bK r1.aa).bind fun r2=>bif r2 then some (eT2 r1)else(iR (eT2 a0)).bind fun r3=>(iR (eT2 r1)).bind fun r4=>aZ (fun(v5:ab×Unit)=>some (eT2 v5.1)) fun j6=>(bK a0.aa).bind fun r7=>(bif (!r7)then(Ch {r3 with aF:=0,ai:=(av r3.ai)} {r4 with aF:=0,ai:=(av r4.ai)}).bind fun r8=>some (!r8)else some false).bind fun b9=>bif b9 then j6 ({r1 with aF:=(cm (ay .i64 r1.aF 1) 1000000),ai:=(av r1.ai)},())else j6 ((eT2 r1),())
def mT(a0:ab)(a1:ByteArray):Option (ab×Int×Unit):=(lz (eT2 a0)).bind fun r1=>bif (!r1)then some ((ab.mk 0 0 0 (al.mk 0 ([]:List Int) ([]:List al)) 0 zB zB zB zB 0 0 (ByteArray.mk #[]) ([]:List aj)),13,())else(bif (decide (((ByteArray.size a1:Nat):Int)<1))then some true else some (decide (200<((ByteArray.size a1:Nat):Int)))).bind fun b2=>bif b2 then some ((ab.mk 0 0 0 (al.mk 0 ([]:List Int) ([]:List al)) 0 zB zB zB zB 0 0 (ByteArray.mk #[]) ([]:List aj)),1,())else aZ (fun(v3:ab×Unit)=>(lW (eT2 a0) (eT2 v3.1)).bind fun r5=>some ((eT2 r5),0,())) fun j4=>(bK a0.aa).bind fun r6=>bif r6 then(o0 {a0 with ai:=(av a0.ai),aY:=a1}).bind fun r7=>j4 ({a0 with aF:=1,ai:=(av a0.ai),aa:=(af.mk 1 r7),aY:=a1},())else j4 ({a0 with ai:=(av a0.ai),aY:=a1},())
def sO(a0:ab):Option (ByteArray×Bool×Unit):=(lz (eT2 a0)).bind fun r1=>(bif (!r1)then some true else some (!decide (a0.aH=3))).bind fun b2=>bif b2 then some ((ByteArray.mk #[]),false,())else some (a0.aa.Value,true,())
def gB(a0:bJ):Option bJ:=aZ (fun(v1:bJ×Unit)=>(sO (eT2 v1.1.ak)).bind fun r3=>some (bJ.mk (eT0 v1.1.aD) (eT2 v1.1.ak) v1.1.Timer v1.1.Round v1.1.Next r3.2.1 r3.1)) fun j2=>(ny a0.aD.aG).bind fun r4=>(bif r4.2.1 then some (decide (a0.ak.aH=1))else some false).bind fun b5=>(bif b5 then(bK a0.ak.au).bind fun r6=>some r6 else some false).bind fun b7=>(bif b7 then some (!decide (r4.1=a0.ak.aY))else some false).bind fun b8=>bif b8 then(mT (eT2 a0.ak) r4.1).bind fun r9=>bif (decide (r9.2.1=0))then j2 ({a0 with aD:=(eT0 a0.aD),ak:=(eT2 r9.1)},())else j2 ((eT3 a0),())else j2 ((eT3 a0),())
def zF(a0:Int)(a1:Int)(a2:al)(a3:ByteArray)(a4:Int):Option (bJ×Int×Unit):=(bif (decide (a4<0))then some true else some (decide (200<a4))).bind fun b1=>bif b1 then some ((bJ.mk (ar.mk 0 0 0 0 (al.mk 0 ([]:List Int) ([]:List al)) (ByteArray.mk #[]) ([]:List ByteArray) ([]:List ByteArray) ([]:List ByteArray) ([]:List az)) (ab.mk 0 0 0 (al.mk 0 ([]:List Int) ([]:List al)) 0 zB zB zB zB 0 0 (ByteArray.mk #[]) ([]:List aj)) (dy.mk 0 0) 0 0 false (ByteArray.mk #[])),1,())else(Dq a0 a1 (av a2)).bind fun r2=>bif (!decide (r2.2.1=0))then some ((bJ.mk (ar.mk 0 0 0 0 (al.mk 0 ([]:List Int) ([]:List al)) (ByteArray.mk #[]) ([]:List ByteArray) ([]:List ByteArray) ([]:List ByteArray) ([]:List az)) (ab.mk 0 0 0 (al.mk 0 ([]:List Int) ([]:List al)) 0 zB zB zB zB 0 0 (ByteArray.mk #[]) ([]:List aj)) (dy.mk 0 0) 0 0 false (ByteArray.mk #[])),r2.2.1,())else(nk a0 a1 (av a2) a3).bind fun r3=>bif (!decide (r3.2.1=0))then some ((bJ.mk (ar.mk 0 0 0 0 (al.mk 0 ([]:List Int) ([]:List al)) (ByteArray.mk #[]) ([]:List ByteArray) ([]:List ByteArray) ([]:List ByteArray) ([]:List az)) (ab.mk 0 0 0 (al.mk 0 ([]:List Int) ([]:List al)) 0 zB zB zB zB 0 0 (ByteArray.mk #[]) ([]:List aj)) (dy.mk 0 0) 0 0 false (ByteArray.mk #[])),r3.2.1,())else(fK 1).bind fun r4=>(gB (bJ.mk (eT0 r3.1) (eT2 r2.1) (dy.mk 0 (-1:Int)) 1 (ay .i64 a4 r4) false (ByteArray.mk #[]))).bind fun r5=>some ((eT3 r5),0,())
def nj(a0:(List ByteArray)):Option Bool:=aA (fun(v1:Int×Unit)=>bif (decide (v1.1<((a0.length:Nat):Int)))then(idx a0 v1.1).bind fun x2=>(vV x2).bind fun r3=>(bif (!r3)then some true else(bif (decide (0<v1.1))then(idx a0 (dm .i64 v1.1 1)).bind fun x4=>(jB x4 x2).bind fun r5=>some (decide (0<=r5))else some false).bind fun b6=>some b6).bind fun b7=>bif b7 then oR (some false)else some (Sum.inl ((ay .i64 v1.1 1),()))else oR (some (decide (((a0.length:Nat):Int)<=40)))) (0,())
def Aw(a0:az):Option Bool:=(bif (decide (0<=a0.aq))then some (decide (a0.aq<10))else some false).bind fun b1=>(bif b1 then some (decide (1<=a0.aF))else some false).bind fun b2=>(bif b2 then(eK (av a0.ai)).bind fun r3=>some (decide (r3=0))else some false).bind fun b4=>(bif b4 then(nj a0.ba).bind fun r5=>some r5 else some false).bind fun b6=>(bif b6 then(nj a0.aB).bind fun r7=>some r7 else some false).bind fun b8=>some b8
def vW(a0:ar):Option Bool:=(bif (decide (a0.aq<0))then some true else some (decide (10<=a0.aq))).bind fun b1=>(bif b1 then some true else some (decide (a0.bl<0))).bind fun b2=>(bif b2 then some true else some (decide (1000000<a0.bl))).bind fun b3=>(bif b3 then some true else some (decide (a0.Round<1))).bind fun b4=>(bif b4 then some true else some (decide (1000<a0.Round))).bind fun b5=>(bif b5 then some true else some (decide (a0.aF<1))).bind fun b6=>(bif b6 then some true else some (decide (1000000<a0.aF))).bind fun b7=>bif b7 then some false else(eK (av a0.ai)).bind fun r8=>(bif (!decide (r8=0))then some true else some (decide (200<((ByteArray.size a0.lL:Nat):Int)))).bind fun b9=>(bif b9 then some true else(nj a0.ba).bind fun r10=>some (!r10)).bind fun b11=>(bif b11 then some true else(nj a0.aB).bind fun r12=>some (!r12)).bind fun b13=>(bif b13 then some true else(nj a0.aG).bind fun r14=>some (!r14)).bind fun b15=>bif b15 then some false else aA (fun(v16:Int×Unit)=>bif (decide (v16.1<((a0.aG.length:Nat):Int)))then(idx a0.aG v16.1).bind fun x17=>(nX a0.aB x17).bind fun r18=>bif (!r18)then oR (some false)else some (Sum.inl ((ay .i64 v16.1 1),()))else oR (aA (fun(v19:Int×Unit)=>bif (decide (v19.1<((a0.aw.length:Nat):Int)))then(idx a0.aw v19.1).bind fun x20=>aZ (fun(v21:Bool×Unit)=>bif v21.1 then oR (some false)else some (Sum.inl ((ay .i64 v19.1 1),()))) fun j22=>(Aw {x20 with ai:=(av x20.ai)}).bind fun r23=>bif (!r23)then j22 (true,())else bif (decide (x20.aq=a0.aq))then j22 (true,())else bif (decide (0<v19.1))then(idx a0.aw (dm .i64 v19.1 1)).bind fun x24=>j22 ((decide (x20.aq<=x24.aq)),())else j22 (false,())else oR (some true)) (0,()))) (0,())
noncomputable def vT(a0:dy):Option Bool:=(bif (decide (0<=a0.ae))then some (decide (a0.ae<=1000000))else some false).bind fun b1=>(bif b1 then some (decide ((-1:Int)<=a0.yx))else some false).bind fun b2=>(bif b2 then some (decide (a0.yx<=212))else some false).bind fun b3=>some b3
def Au(a0:bJ):Option Bool:=(lz (eT2 a0.ak)).bind fun r1=>(bif (!r1)then some true else(vW (eT0 a0.aD)).bind fun r2=>some (!r2)).bind fun b3=>(bif b3 then some true else some (!decide (a0.aD.aq=a0.ak.aq))).bind fun b4=>(bif b4 then some true else some (!decide (a0.aD.bl=a0.ak.bl))).bind fun b5=>(bif b5 then some true else(tM (av a0.aD.ai) (av a0.ak.ai)).bind fun r6=>some (!r6)).bind fun b7=>(bif b7 then some true else(vT a0.Timer).bind fun r8=>some (!r8)).bind fun b9=>bif b9 then some false else(sO (eT2 a0.ak)).bind fun r10=>(bif (decide (1<=a0.Round))then some (decide (a0.Round<=1000))else some false).bind fun b11=>(bif b11 then some (decide (0<=a0.Next))else some false).bind fun b12=>(bif b12 then some (decide (a0.Next<=212))else some false).bind fun b13=>(bif b13 then some (xor false (decide (a0.wP=r10.2.1)))else some false).bind fun b14=>(bif b14 then some (decide (a0.Value=r10.1))else some false).bind fun b15=>some b15
def tL(a0:ar):Option (ar×Int×Unit):=(vW (eT0 a0)).bind fun r1=>bif (!r1)then some ((ar.mk 0 0 0 0 (al.mk 0 ([]:List Int) ([]:List al)) (ByteArray.mk #[]) ([]:List ByteArray) ([]:List ByteArray) ([]:List ByteArray) ([]:List az)),1,())else bif (decide (a0.Round=1000))then some ((ar.mk 0 0 0 0 (al.mk 0 ([]:List Int) ([]:List al)) (ByteArray.mk #[]) ([]:List ByteArray) ([]:List ByteArray) ([]:List ByteArray) ([]:List az)),3,())else(mV (eT0 a0) {a0 with Round:=(ay .i64 a0.Round 1),ai:=(av a0.ai)}).bind fun r2=>some ((eT0 r2),0,())
def xY(a0:ab):Option (aj×Bool×Unit):=(lz (eT2 a0)).bind fun r1=>(bif (!r1)then some true else(bK a0.aa).bind fun r2=>some r2).bind fun b3=>bif b3 then some ((aj.mk 0 0 0 (al.mk 0 ([]:List Int) ([]:List al)) 0 zB zB zB 0 0),false,())else(iR (eT2 a0)).bind fun r4=>some ((eT1 r4),true,())
def oA(a0:ab):Option Bool:=(xY (eT2 a0)).bind fun r1=>(bif (!r1.2.1)then some true else some (decide (a0.aH=3))).bind fun b2=>bif b2 then some false else bif bp 176 (List.length [(eT1 r1.1)]+a0.aw.length)then aA (fun(v3:Int×(List Bool)×Unit)=>bif (decide (v3.1<((List.length ([(eT1 r1.1)]++a0.aw):Nat):Int)))then(idx ([(eT1 r1.1)]++a0.aw) v3.1).bind fun x4=>(([(eT1 r1.1)]++a0.aw)[(Int.toNat v3.1)]?).bind fun x5=>(mU (eT1 x5)).bind fun r6=>(mU (eT1 r1.1)).bind fun r7=>bif bp 1 (v3.2.1.length+List.length [(decide (r7<=r6))])then some (Sum.inl ((ay .i64 v3.1 1),(v3.2.1++[(decide (r7<=r6))]),()))else none else oR ((iS a0.aq (av a0.ai) ([(eT1 r1.1)]++a0.aw)).bind fun r8=>(fQ ([(eT1 r1.1)]++a0.aw) v3.2.1).bind fun r9=>(kc r8 r9).bind fun r10=>if(bq .u64 a0.aq)<0 then none else some (decide ((B7 .i64 (lC .i64 r10 (bq .u64 a0.aq)) 1)=1)))) (0,([]:List Bool),())else none
def qN(a0:dy)(a1:ab)(a2:Int):Option (dy×Bool×Unit):=(vT a0).bind fun r1=>(bif (!r1)then some true else some (decide (a2<0))).bind fun b2=>(bif b2 then some true else some (decide (200<a2))).bind fun b3=>bif b3 then some ((dy.mk 0 (-1:Int)),false,())else(oA (eT2 a1)).bind fun r4=>bif (!r4)then some ((dy.mk a1.aa.ae (-1:Int)),false,())else(bif (decide (a0.yx<0))then some true else some (!decide (a0.ae=a1.aa.ae))).bind fun b5=>bif b5 then(fK a1.aa.ae).bind fun r6=>some ((dy.mk a1.aa.ae (ay .i64 a2 r6)),false,())else bif (decide (a0.yx<=a2))then some ((dy.mk a1.aa.ae (-1:Int)),true,())else some (a0,false,())
def kY(a0:ab):Option (ab×Int×Unit):=(lz (eT2 a0)).bind fun r1=>bif (!r1)then some ((ab.mk 0 0 0 (al.mk 0 ([]:List Int) ([]:List al)) 0 zB zB zB zB 0 0 (ByteArray.mk #[]) ([]:List aj)),13,())else(o0 (eT2 a0)).bind fun r2=>(bif (decide (a0.aH=3))then some true else some (decide (r2=(ByteArray.mk #[])))).bind fun b3=>bif b3 then some ((ab.mk 0 0 0 (al.mk 0 ([]:List Int) ([]:List al)) 0 zB zB zB zB 0 0 (ByteArray.mk #[]) ([]:List aj)),62,())else bif (decide (1000<=a0.aa.ae))then some ((ab.mk 0 0 0 (al.mk 0 ([]:List Int) ([]:List al)) 0 zB zB zB zB 0 0 (ByteArray.mk #[]) ([]:List aj)),3,())else aZ (fun(v4:ab×Unit)=>(lW (eT2 a0) {v4.1 with aF:=(bB v4.1.aF 1),ai:=(av v4.1.ai),aa:=(af.mk (ay .i64 v4.1.aa.ae 1) r2)}).bind fun r6=>some ((eT2 r6),0,())) fun j5=>bif (!decide (r2=a0.aa.Value))then j5 ({a0 with ai:=(av a0.ai),aS:=0},())else j5 ((eT2 a0),())
def xX(a0:bJ)(a1:Int):Option (bJ×Int×Unit):=(Au (eT3 a0)).bind fun r1=>bif (!r1)then some ((bJ.mk (ar.mk 0 0 0 0 (al.mk 0 ([]:List Int) ([]:List al)) (ByteArray.mk #[]) ([]:List ByteArray) ([]:List ByteArray) ([]:List ByteArray) ([]:List az)) (ab.mk 0 0 0 (al.mk 0 ([]:List Int) ([]:List al)) 0 zB zB zB zB 0 0 (ByteArray.mk #[]) ([]:List aj)) (dy.mk 0 0) 0 0 false (ByteArray.mk #[])),13,())else(bif (decide (a1<0))then some true else some (decide (200<a1))).bind fun b2=>bif b2 then some ((bJ.mk (ar.mk 0 0 0 0 (al.mk 0 ([]:List Int) ([]:List al)) (ByteArray.mk #[]) ([]:List ByteArray) ([]:List ByteArray) ([]:List ByteArray) ([]:List az)) (ab.mk 0 0 0 (al.mk 0 ([]:List Int) ([]:List al)) 0 zB zB zB zB 0 0 (ByteArray.mk #[]) ([]:List aj)) (dy.mk 0 0) 0 0 false (ByteArray.mk #[])),1,())else aZ (fun(v3:bJ×Unit)=>(qN v3.1.Timer (eT2 v3.1.ak) a1).bind fun r5=>aZ (fun(v6:bJ×Unit)=>some ((eT3 v6.1),0,())) fun j7=>bif r5.2.1 then aZ (fun(v8:bJ×Unit)=>(gB (eT3 v8.1)).bind fun r10=>j7 ((eT3 r10),())) fun j9=>(kY (eT2 v3.1.ak)).bind fun r11=>bif (decide (r11.2.1=0))then j9 ({v3.1 with aD:=(eT0 v3.1.aD),ak:=(eT2 r11.1),Timer:=r5.1},())else j9 ({v3.1 with aD:=(eT0 v3.1.aD),ak:=(eT2 v3.1.ak),Timer:=r5.1},())else j7 ({v3.1 with aD:=(eT0 v3.1.aD),ak:=(eT2 v3.1.ak),Timer:=r5.1},())) fun j4=>(bif (decide (((a0.aD.aG.length:Nat):Int)=0))then some (decide (a0.Next<=a1))else some false).bind fun b12=>bif b12 then aZ (fun(v13:bJ×Unit)=>(fK (cm (ay .i64 v13.1.Round 1) 1000)).bind fun r15=>(gB (bJ.mk (eT0 v13.1.aD) (eT2 v13.1.ak) v13.1.Timer (cm (ay .i64 v13.1.Round 1) 1000) (ay .i64 a1 r15) v13.1.wP v13.1.Value)).bind fun r16=>j4 ((eT3 r16),())) fun j14=>(tL (eT0 a0.aD)).bind fun r17=>bif (decide (r17.2.1=0))then j14 ({a0 with aD:=(eT0 r17.1),ak:=(eT2 a0.ak)},())else j14 ((eT3 a0),())else j4 ((eT3 a0),())
noncomputable def F4:SA U:=gz (kR prog 20 [] f147) (.r (.r (.l (.r (.l (.j ⟨[.val 3 y0,.val 9 y0],[7,8]⟩ .e))))))
noncomputable def jw(rec:(al×Unit)->Option Int)(a0:al):Option Int:=aA (fun(v1:Int×Int×Unit)=>bif (decide (v1.2.1<((a0.aN.length:Nat):Int)))then(idx a0.aN v1.2.1).bind fun x2=>(rec ((av x2),())).bind fun r3=>some (Sum.inl ((bB v1.1 r3),(ay .i64 v1.2.1 1),()))else oR (some (ay .i64 v1.1 1))) (0,0,())
noncomputable def nv:Nat->(al×Unit)->Option Int:=jf (fun rec a=>jw rec a.1)
def jo(a0:al):Option Int:=nv (SizeOf.sizeOf a0+1) (a0,())
noncomputable def H6:KS U prog:=⟨.fn 147 [t4] q0 fun a=>jo a.1,GO (K:=K) (A_s:=[t4]) (r:= .one y0) (B:=fun rec a=>jw rec a.1) F4 20 [.tmp 2] [] (fk f147 [] func147) (hF:=fun a=>⟨_,rfl⟩)⟩
noncomputable def HZ:SA U:=gz (kR prog 26 [] f148) (.r (.r (.l (.r (.l (.j ⟨[.val 3 y0,.val 16 y0],[14,15]⟩ .e))))))
noncomputable def km(rec:(al×Unit)->Option Int)(a0:al):Option Int:=aA (fun(v1:Int×Int×Unit)=>bif (decide (v1.2.1<((a0.aN.length:Nat):Int)))then(idx a0.aN v1.2.1).bind fun x2=>(rec ((av x2),())).bind fun r3=>some (Sum.inl ((ay .i64 v1.1 r3),(ay .i64 v1.2.1 1),()))else oR (some v1.1)) ((ay .i64 ((a0.bb.length:Nat):Int) ((a0.aN.length:Nat):Int)),0,())
noncomputable def ox:Nat->(al×Unit)->Option Int:=jf (fun rec a=>km rec a.1)
def ka(a0:al):Option Int:=ox (SizeOf.sizeOf a0+1) (a0,())
noncomputable def Jp:KS U prog:=⟨.fn 148 [t4] q0 fun a=>ka a.1,GO (K:=K) (A_s:=[t4]) (r:= .one y0) (B:=fun rec a=>km rec a.1) HZ 26 [.tmp 2] [] (fk f148 [] func148) (hF:=fun a=>⟨_,rfl⟩)⟩
noncomputable def wL(a0:Int):Option Bool:=(bif (decide (0<=a0))then some (decide (a0<10))else some false).bind fun b1=>some b1
def Jo:=kf func207 [t0] q1 (u1 wL) [] .e []
def lM(a0:Int):Option Bool:=(wL a0).bind fun r1=>some (!r1)
def FJ:=kf func206 [t0] q1 (u1 lM) [] .e [Jo]
def kM(a0:(List Int)):Option Int:=aA (fun(v1:Int×Unit)=>bif (decide (v1.1<((a0.length:Nat):Int)))then(idx a0 v1.1).bind fun x2=>(lM x2).bind fun r3=>bif r3 then oR (some v1.1)else some (Sum.inl ((ay .i64 v1.1 1),()))else oR (some (-1:Int))) (0,())
def xb:=kf func245 [t8,.bG 206 []] q0 (fun a=>kM a.1) [] (p_ 4 5 (.j ⟨[.val 8 y0],[0,1,7]⟩ .e)) [FJ]
def gl(a0:(List Int)):Option Bool:=(kM a0).bind fun r1=>some (decide (0<=r1))
def uO:=kf func205 [t8,.bG 206 []] q1 (fun a=>gl a.1) [] .e [xb]
noncomputable def yh(a0:Int)(a1:Int):Option Bool:=(bif (decide (0<=a0))then if a1<0 then none else some (decide (a0<(bS .i64 1 a1)))else some false).bind fun b1=>some b1
def K8:=kf func266 [t0,t0] q1 (u2 yh) [] .e []
def fh(a0:Int):Option Bool:=(yh a0 10).bind fun r1=>some r1
def pk:=kf func231 [t0] q1 (u1 fh) [] .e [K8]
def jb(a0:Int)(a1:Int):Option Bool:=(fh a0).bind fun r1=>(bif r1 then some (decide (0<=a1))else some false).bind fun b2=>(bif b2 then some (decide (a1<10))else some false).bind fun b3=>(bif b3 then if a1<0 then none else some (!decide ((B7 .i64 a0 (bS .i64 1 a1))=0))else some false).bind fun b4=>some b4
def nf:=kf func183 [t0,t0] q1 (u2 jb) [] .e [pk]
def qW(a0:(List Int)):Option (Int×Int×Unit):=aA (fun(v1:Int×Int×Unit)=>bif (decide (v1.2.1<((a0.length:Nat):Int)))then(idx a0 v1.2.1).bind fun x2=>(bif (decide (x2<0))then some true else some (decide (10<=x2))).bind fun b3=>bif b3 then oR (some (0,5,()))else(jb v1.1 x2).bind fun r4=>bif r4 then oR (some (0,6,()))else if x2<0 then none else some (Sum.inl ((oi .i64 v1.1 (bS .i64 1 x2)),(ay .i64 v1.2.1 1),()))else oR (some (v1.1,0,()))) (0,0,())
def P7:=kf func208 [t8] (.many [y0,y0]) (u1 qW) [] (p_ 5 11 (.j ⟨[.val 4 y0,.val 9 y0],[7,8]⟩ .e)) [nf]
noncomputable def F3:SA U:=gz (kR prog 48 [] f149) (.r (.r (.r (.r (.l (.r (.l (.j ⟨[.val 38 y0],[36,37]⟩ .e))))))))
def iA(rec:(al×Unit)->Option Int)(a0:al):Option Int:=(bif (decide (a0.aL<1))then some true else some (decide ((ay .i64 ((a0.bb.length:Nat):Int) ((a0.aN.length:Nat):Int))<a0.aL))).bind fun b1=>bif b1 then some 4 else(gl a0.bb).bind fun r2=>bif r2 then some 5 else(qW a0.bb).bind fun r3=>bif (!decide (r3.2.1=0))then some r3.2.1 else aA (fun(v4:Int×Unit)=>bif (decide (v4.1<((a0.aN.length:Nat):Int)))then(idx a0.aN v4.1).bind fun x5=>(rec ((av x5),())).bind fun r6=>bif (!decide (r6=0))then oR (some r6)else some (Sum.inl ((ay .i64 v4.1 1),()))else oR (some 0)) (0,())
noncomputable def fA:Nat->(al×Unit)->Option Int:=jf (fun rec a=>iA rec a.1)
def lh(a0:al):Option Int:=fA (SizeOf.sizeOf a0+1) (a0,())
noncomputable def H5:KS U prog:=⟨.fn 149 [t4] q0 fun a=>lh a.1,GO (K:=K) (A_s:=[t4]) (r:= .one y0) (B:=fun rec a=>iA rec a.1) F3 48 [.tmp 2] [uO,P7] (fk f149 [] func149) (hF:=fun a=>⟨_,rfl⟩)⟩
def cj(a0:al):Option Int:=(jo (av a0)).bind fun r1=>(bif (decide (4<r1))then some true else(ka (av a0)).bind fun r2=>some (decide (200<r2))).bind fun b3=>bif b3 then some 3 else(lh (av a0)).bind fun r4=>some r4
def gi:=kf func84 [t4] q0 (u1 cj) [] .e [H6,Jp,H5]
noncomputable def bu(a0:af):Option Bool:=some (lu false a0.ae 0 a0.Value (ByteArray.mk #[]))
def bY:=kf func86 [t2] q1 (u1 bu) [] .e []
noncomputable def sU(a0:Int):Option Bool:=some (!decide (a0=a0))
def Le:=kf func161 [t0] q1 (u1 sU) [] .e []
def fB(a0:Int)(a1:Int):Option Int:=(sU a0).bind fun r1=>(sU a1).bind fun r2=>bif r1 then bif r2 then some 0 else some (-1:Int)else bif r2 then some 1 else bif (decide (a0<a1))then some (-1:Int)else bif (decide (a1<a0))then some 1 else some 0
def nr:=kf func106 [t0,t0] q0 (u2 fB) [] .e [Le]
noncomputable def pP(a0:ByteArray):Option Bool:=some (!decide (a0=a0))
def GJ:=kf func247 [t3] q1 (u1 pP) [] .e []
def lf(a0:ByteArray)(a1:ByteArray):Option Int:=(pP a0).bind fun r1=>(pP a1).bind fun r2=>bif r1 then bif r2 then some 0 else some (-1:Int)else bif r2 then some 1 else bif (jR a0 a1)then some (-1:Int)else bif (!(jR a0 a1||decide (a0=a1)))then some 1 else some 0
def xH:=kf func215 [t3,t3] q0 (u2 lf) [] .e [GJ]
noncomputable def mF(a0:(List Int)):Option Int:=aA (fun(v1:Int×Unit)=>bif (decide (v1.1<((a0.length:Nat):Int)))then(idx a0 v1.1).bind fun x2=>bif (!decide (x2=0))then oR (some x2)else some (Sum.inl ((ay .i64 v1.1 1),()))else oR (some 0)) (0,())
def xG:=kf func214 [t8] q0 (u1 mF) [] (p_ 5 11 (.j ⟨[.val 8 y0],[3,6,7]⟩ .e)) []
def gV(a0:ByteArray)(a1:ByteArray):Option Int:=(fB ((ByteArray.size a0:Nat):Int) ((ByteArray.size a1:Nat):Int)).bind fun r1=>(lf a0 a1).bind fun r2=>(mF [r1,r2]).bind fun r3=>some r3
def uK:=kf func284 [t3,t3] q0 (u2 gV) [] .e [nr,xH,xG]
def nJ(a0:af)(a1:af):Option Int:=(fB a0.ae a1.ae).bind fun r1=>(gV a0.Value a1.Value).bind fun r2=>(mF [r1,r2]).bind fun r3=>some r3
def AF:=kf func246 [t2,t2] q0 (u2 nJ) [] .e [nr,uK,xG]
def dW(a0:af)(a1:af):Option Bool:=(nJ a0 a1).bind fun r1=>some (decide (r1<0))
def je:=kf func209 [t2,t2] q1 (u2 dW) [] .e [AF]
noncomputable def cg(a0:af)(a1:af):Option Bool:=some (decide (a0.Value=a1.Value))
def dg:=kf func153 [t2,t2] q1 (u2 cg) [] .e []
noncomputable def gM(a0:af):Option Bool:=(bif (decide (1<=a0.ae))then some (decide (a0.ae<=1000))else some false).bind fun b1=>(bif b1 then some true else some (decide (a0.ae=1000000))).bind fun b2=>(bif b2 then some (decide (1<=((ByteArray.size a0.Value:Nat):Int)))else some false).bind fun b3=>(bif b3 then some (decide (((ByteArray.size a0.Value:Nat):Int)<=200))else some false).bind fun b4=>some b4
def pr:=kf func152 [t2] q1 (u1 gM) [] .e []
def mD(a0:af):Option Bool:=(gM a0).bind fun r1=>(bif r1 then some (decide (a0.ae<=1000))else some false).bind fun b2=>some b2
def zS:=kf func151 [t2] q1 (u1 mD) [] .e [pr]
def k9(a0:af):Option Bool:=(bu a0).bind fun r1=>(bif r1 then some true else(gM a0).bind fun r2=>some r2).bind fun b3=>some b3
def EZ:=kf func210 [t2] q1 (u1 k9) [] .e [bY,pr]
noncomputable def og(a0:aj)(a1:Int):Option af:=some (af.mk a1 a0.aa.Value)
def DR:=kf func211 [t11,t0] (.one y2) (u2 og) [] .e []
def dX(a0:af)(a1:af):Option Bool:=(bu a0).bind fun r1=>(bif (!r1)then(cg a0 a1).bind fun r2=>some (!r2)else some false).bind fun b3=>(bif b3 then(dW a1 a0).bind fun r4=>some r4 else some false).bind fun b5=>some b5
def wD:=kf func212 [t2,t2] q1 (u2 dX) [] .e [bY,dg,je]
def kl(a0:af)(a1:af):Option Bool:=(bu a0).bind fun r1=>(bif (!r1)then(cg a0 a1).bind fun r2=>some r2 else some false).bind fun b3=>(bif b3 then some (decide (a1.ae<=a0.ae))else some false).bind fun b4=>some b4
def wC:=kf func213 [t2,t2] q1 (u2 kl) [] .e [bY,dg]
def gU(a0:af)(a1:af)(a2:af):Option Bool:=(kl a0 a2).bind fun r1=>(bif r1 then some true else(kl a1 a2).bind fun r2=>some r2).bind fun b3=>(bif b3 then some true else(bu a1).bind fun r4=>(bif (!r4)then(dW a2 a1).bind fun r5=>some r5 else some false).bind fun b6=>some b6).bind fun b7=>some b7
def pw:=kf func154 [t2,t2,t2] q1 (u3 gU) [] .e [wC,bY,je]
def nT(a0:aj):Option Bool:=(bu a0.ax).bind fun r1=>(bif r1 then some true else(bu a0.an).bind fun r2=>(bif (!r2)then(dW a0.ax a0.an).bind fun r3=>some r3 else some false).bind fun b4=>(bif b4 then(cg a0.ax a0.an).bind fun r5=>some (!r5)else some false).bind fun b6=>some b6).bind fun b7=>(mD a0.aa).bind fun r8=>(bif (!r8)then some true else(k9 a0.an).bind fun r9=>some (!r9)).bind fun b10=>(bif b10 then some true else(k9 a0.ax).bind fun r11=>some (!r11)).bind fun b12=>(bif b12 then some true else some (!b7)).bind fun b13=>(bif b13 then some true else some (decide (a0.aS<0))).bind fun b14=>(bif b14 then some true else some (decide (a0.bn<a0.aS))).bind fun b15=>(bif b15 then some true else some (decide (a0.aa.ae<a0.bn))).bind fun b16=>bif b16 then some false else(og (eT1 a0) a0.aS).bind fun r17=>aZ (fun(v18:Bool×Unit)=>some v18.1) fun j19=>bif (decide (a0.bn=0))then bif (decide (a0.aS=0))then j19 (true,())else(dX a0.an r17).bind fun r20=>bif (!r20)then(dX a0.ax r17).bind fun r21=>j19 ((!r21),())else j19 (false,())else(og (eT1 a0) a0.bn).bind fun r22=>(gU a0.an a0.ax r22).bind fun r23=>bif r23 then bif (decide (a0.aS=0))then j19 (true,())else(dX a0.an r17).bind fun r24=>bif (!r24)then(dX a0.ax r17).bind fun r25=>j19 ((!r25),())else j19 (false,())else j19 (false,())
def EY:=kf func150 [t11] q1 (u1 nT) [] (p_ 4 15 (.j ⟨[.val 2 y1],[]⟩ .e)) [bY,je,dg,zS,EZ,DR,wD,pw]
def dY(a0:aj):Option Bool:=(bif (decide (a0.aq<0))then some true else some (decide (10<=a0.aq))).bind fun b1=>(bif b1 then some true else some (decide (a0.bl<1))).bind fun b2=>(bif b2 then some true else some (decide (1000000<a0.bl))).bind fun b3=>(bif b3 then some true else some (decide (a0.aF<1))).bind fun b4=>(bif b4 then some true else some (decide (1000000<a0.aF))).bind fun b5=>(bif b5 then some true else(cj (av a0.ai)).bind fun r6=>some (!decide (r6=0))).bind fun b7=>bif b7 then some false else(bif (decide (1<=a0.aS))then some (decide (a0.aS<=a0.bn))else some false).bind fun b8=>(bif b8 then some (decide (a0.bn<=1000))else some false).bind fun b9=>bif (decide (a0.bL=1))then(nT (eT1 a0)).bind fun r10=>some r10 else bif (decide (a0.bL=2))then(mD a0.aa).bind fun r11=>(bif r11 then(gM a0.an).bind fun r12=>some r12 else some false).bind fun b13=>(bif b13 then(cg a0.an a0.aa).bind fun r14=>some r14 else some false).bind fun b15=>(bif b15 then(bu a0.ax).bind fun r16=>some r16 else some false).bind fun b17=>(bif b17 then some b9 else some false).bind fun b18=>(bif b18 then some (decide (a0.bn<=a0.an.ae))else some false).bind fun b19=>some b19 else bif (decide (a0.bL=3))then(gM a0.aa).bind fun r20=>(bif r20 then(bu a0.an).bind fun r21=>some r21 else some false).bind fun b22=>(bif b22 then(bu a0.ax).bind fun r23=>some r23 else some false).bind fun b24=>(bif b24 then some b9 else some false).bind fun b25=>some b25 else some false
def ix:=kf func88 [t11] q1 (u1 dY) [] .e [gi,EY,zS,pr,dg,bY]
def sR(a0:ab):Option Bool:=aA (fun(v1:Int×Unit)=>bif (decide (v1.1<((a0.aw.length:Nat):Int)))then(idx a0.aw v1.1).bind fun x2=>aZ (fun(v3:Bool×Unit)=>bif v3.1 then oR (some false)else some (Sum.inl ((ay .i64 v1.1 1),()))) fun j4=>(dY (eT1 x2)).bind fun r5=>bif (!r5)then j4 (true,())else bif (!decide (x2.bl=a0.bl))then j4 (true,())else bif (decide (x2.aq=a0.aq))then j4 (true,())else bif (decide (0<v1.1))then(idx a0.aw (dm .i64 v1.1 1)).bind fun x6=>j4 ((decide (x2.aq<=x6.aq)),())else j4 (false,())else oR (some true)) (0,())
def K9:=kf func85 [t9] q1 (u1 sR) [] (p_ 4 5 (.j ⟨[.val 8 y0],[1,6,7]⟩ (p_ 6 38 (.j ⟨[.val 45 y1],[1,6,7,8]⟩ .e)))) [ix]
noncomputable def yi(a0:ab):Option Bool:=(bif (decide (a0.aH=1))then some (decide (a0.aF=0))else some false).bind fun b1=>(bif b1 then some (lu false a0.an.ae 0 a0.an.Value (ByteArray.mk #[]))else some false).bind fun b2=>(bif b2 then some (lu false a0.ax.ae 0 a0.ax.Value (ByteArray.mk #[]))else some false).bind fun b3=>(bif b3 then some (lu false a0.au.ae 0 a0.au.Value (ByteArray.mk #[]))else some false).bind fun b4=>(bif b4 then some (decide (a0.aS=0))else some false).bind fun b5=>(bif b5 then some (decide (a0.bn=0))else some false).bind fun b6=>some b6
def La:=kf func87 [t9] q1 (u1 yi) [] .e []
def dH(a0:ab):Option aj:=aZ (fun(v1:aj×Unit)=>some (eT1 v1.1)) fun j2=>bif (decide (a0.aH=1))then(bu a0.au).bind fun r3=>(bif (!r3)then(cg a0.au a0.aa).bind fun r4=>some r4 else some false).bind fun b5=>bif b5 then j2 ({a0 with ai:=(av a0.ai),bL:=a0.aH,bn:=a0.au.ae},())else j2 ({a0 with ai:=(av a0.ai),bL:=a0.aH,bn:=0},())else j2 ({a0 with ai:=(av a0.ai),bL:=a0.aH},())
def lg:=kf func89 [t9] (.one y11) (u1 dH) [] (p_ 2 3 (.j ⟨[.box 23 1 y11 []],[2,3]⟩ .e)) [bY,dg]
def oK(a0:ab):Option Bool:=(bu a0.au).bind fun r1=>bif r1 then some true else(gM a0.au).bind fun r2=>(bif (!r2)then some true else some (decide (1000<a0.au.ae))).bind fun b3=>bif b3 then some false else(gU a0.an a0.ax a0.au).bind fun r4=>(bif r4 then some true else(bif (!decide (a0.aH=1))then(cg a0.au a0.aa).bind fun r5=>some r5 else some false).bind fun b6=>some b6).bind fun b7=>some b7
def FL:=kf func90 [t9] q1 (u1 oK) [] .e [bY,pr,pw,dg]
def jC(a0:ab):Option Bool:=(bif (decide (a0.aq<0))then some true else some (decide (10<=a0.aq))).bind fun b1=>(bif b1 then some true else some (decide (a0.bl<1))).bind fun b2=>(bif b2 then some true else some (decide (1000000<a0.bl))).bind fun b3=>(bif b3 then some true else some (decide (a0.aF<0))).bind fun b4=>(bif b4 then some true else some (decide (1000000<a0.aF))).bind fun b5=>(bif b5 then some true else(cj (av a0.ai)).bind fun r6=>some (!decide (r6=0))).bind fun b7=>(bif b7 then some true else some (decide (200<((ByteArray.size a0.aY:Nat):Int)))).bind fun b8=>(bif b8 then some true else(sR (eT2 a0)).bind fun r9=>some (!r9)).bind fun b10=>bif b10 then some false else(bu a0.aa).bind fun r11=>bif r11 then(yi (eT2 a0)).bind fun r12=>some r12 else(dH (eT2 a0)).bind fun r13=>(dY (eT1 r13)).bind fun r14=>(bif r14 then(oK (eT2 a0)).bind fun r15=>some r15 else some false).bind fun b16=>(bif b16 then(bif (!decide (a0.aH=1))then some true else some (decide (a0.bn=0))).bind fun b17=>some b17 else some false).bind fun b18=>(bif b18 then(bif (!(!decide (a0.aH=1)))then some true else(bu a0.ax).bind fun r19=>some r19).bind fun b20=>some b20 else some false).bind fun b21=>(bif b21 then(bif (!decide (a0.aH=3))then some true else(bu a0.an).bind fun r22=>some r22).bind fun b23=>some b23 else some false).bind fun b24=>some b24
def pn:=kf func41 [t9] q1 (u1 jC) [] .e [gi,K9,bY,La,lg,ix,FL]
def nF(a0:ab):Option (ByteArray×Bool×Unit):=(bif (!decide (a0.aH=3))then some true else(jC (eT2 a0)).bind fun r1=>some (!r1)).bind fun b2=>bif b2 then some ((ByteArray.mk #[]),false,())else some (a0.aa.Value,true,())
def AD:=kf func40 [t9] (.many [y3,y1]) (u1 nF) [] .e [pn]
noncomputable def ln(a0:Int):Option Bool:=(bif (decide (0<=a0))then some (decide (a0<10))else some false).bind fun b1=>some b1
def uR:=kf func110 [t0] q1 (u1 ln) [] .e []
end Go.Proofs.YtjbfdglebjnelaaGreat
end
