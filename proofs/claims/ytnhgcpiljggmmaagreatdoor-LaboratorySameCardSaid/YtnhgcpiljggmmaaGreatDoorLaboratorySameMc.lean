/-
  Texts made small by a program (see NOTES). Conditions: those that each theorem names.
-/
import Derived.Test.YtnhgcpiljggmmaaGreatDoorLaboratorySameMb
import Derived.KernelRfl
import Derived.Lib.AtoiAll
import Derived.Lib.SplitLaws
import Derived.Lib.LaidTab
import Derived.Shelf.Strings.OnBuilder
import Derived.Shelf.Strconv.Itoa3
import Derived.Shelf.Strconv.AtoiAll
import Derived.Shelf.Strings.BuilderK
import Derived.Shelf.Small.Strs
import Derived.Shelf.Strings.Split
import Derived.Shelf.Strings.Prefix
import Derived.Test.YtnhgcpiljggmmaaGreatDoorProg
import Derived.Shelf.SlGeneric
import Derived.Shelf.SlLaysZ
import Derived.Ground.GgzProg
import Derived.Lib.OthersKept
import Derived.BigCall
import Derived.Shelf.SlIter.Collect
set_option linter.unusedVariables false
set_option linter.unusedSimpArgs false
set_option linter.unusedSectionVars false
set_option maxHeartbeats 2000000
noncomputable section
namespace Go.TQ
section
open Go.RowKit
section
variable {P : Program} {E : En} {S : St} {a : Act} {w : World} {L : Nat -> Value} {nt : Nat}
theorem VS.post{sc:SC}{Q Q':Exit->St->Prop}{S:St}(h:VS P nt sc Q S)(hq:∀e A,Q e A->∃A',(∀(E:En) (a:Act) (w:World) (L:Nat->Value),Rel E A a w L->∃L',Rel E A' a w L')/\Q' e A'):VS P nt sc Q' S:=
 fun c hs hc E hE hk a w L hr=>wpIn_mono (h c hs hc E hE hk a w L hr) fun e a' w' ⟨S',L',h1,h2⟩=>by
  obtain⟨A',h3,h4⟩:=hq e S' h2;obtain⟨L'',h5⟩:=h3 E a' w' L' h1;exact⟨A',L'',h5,h4⟩
theorem Rel.adk(h:Rel E S a w L){id:Nat}{cs:List PV}(hid:id<S.N)(hc:(S.H id).c= .box cs):Rel E {S with H:=bS S.H id ⟨(S.H id).ar,.box (cs.map nz)⟩} a w L:=by
 have:=(h.og (w':=w) hid ⟨(S.H id).ar,.box (cs.map nz)⟩ (L id) (.inl ⟨rfl,rfl,by rw[hc];rfl⟩) rfl rfl rfl (QI _) (fun _ _ _=>rfl) (fun b _ hb=> .inl ⟨by rw[hc];rfl,hb⟩) (fun hs hg=>by
  obtain⟨b,cur,T,h1,h2,h3,h4⟩:=h.nf hid hc
  exact⟨b,cur,T,h1,h2,h4,(h3.mono hs hg).nz⟩)).1
 rwa [BC]at this
end
section
variable {U : TU}
def SH(S:aS U):RV->Option (KV U)
 | .tmp t=>some (S.env t)
 | .cell t n=>(match S.env t with
  | .ptr id ar off=>(match S.mL id ar with|some cs=>DT n (cs.drop off)|none=>none)
  |_=>none)
def Mk(S:aS U):List RV->Option (List (KV U))
 |[]=>some []
 |r::rs=>(match SH S r with
  |some x=>(match Mk S rs with|some xs=>some (x::xs)|none=>none)
  |none=>none)
def aa3:List (KV U)->KV U
 |[x]=>x
 |xs=> .cX xs
def GF(S:aS U)(rs:List RV):Option (KV U):=
 match Mk S rs with
 |some xs=>some (aa3 xs)
 |none=>none
theorem WX{S:aS U}{r:RV}{x:KV U}(h:SH S r=some x):yr S.st r=some x.pv:=by
 cases r with
 |tmp t=>injection h with h;subst h;rfl
 |cell t n=>
  simp only[SH]at h;split at h
  ·rename_i id ar off ht;split at h
   ·rename_i cs hb;obtain⟨h1,h2⟩:=py hb;have h3:S.st.env t= .ptr id ar off:=by simp only[aS.st,ht,KV.pv]
    simp only[yr,h3];rw[Qr h1,h2];have:=yf h;rw[List.map_drop]at this;exact this
   ·cases h
  ·cases h
theorem MT{S:aS U}:∀{rs:List RV} {xs:List (KV U)},Mk S rs=some xs->tk S.st rs=some (xs.map KV.pv)
 |[],xs,h=>by injection h with h;subst h;rfl
 |r::rs,xs,h=>by
  simp only[Mk]at h;split at h
  ·rename_i x hx;split at h
   ·rename_i ys hys;injection h with h
    subst h;simp only[tk,WX hx,MT hys,QD]
   ·cases h
  ·cases h
theorem Jx{S:aS U}{rs:List RV}{x:KV U}(h:GF S rs=some x):sU S.st rs=some x.pv:=by
 unfold GF at h;split at h
 ·rename_i xs hxs;injection h with h
  subst h;have:=MT hxs;unfold sU;rw[this]
  match xs with
  |[]=>rfl
  |[x]=>rfl
  |x::y::l=>simp only[QD,aa3,KV.pv,KV.cv]
 ·cases h
variable (K : TK U)
def Hg(S:aS U)(ex:Option Nat):(r:nn U)->KV U->Option r.den
 | .one T,x=>zz K S.lk T x
 | .many Ts,x=>(match x with| .cX xs=>Mu K S.lk Ts xs|_=>none)
 | .fn a,x=>(match Nat.ble a.depth 9 with|true=>Hi K S ex a x|false=>none)
variable {K}
theorem RZ{S:aS U}{ex:Option Nat}(hex:∀id,ex=some id->∀e k T xs,(S.H id).c≠ .row e k T xs){r:nn U}{x:KV U}{v:r.den}(h:Hg K S ex r x=some v):fz S.st.H ex 9 x.pv=sb r v:=by
 cases r with
 |one T=>exact GB hex 7 h
 |many Ts=>
  simp only[Hg]at h;split at h
  ·rename_i xs;rw[KV.pv,KV.cv,fz,sb,OG hex 6 Ts _ v h]
  ·cases h
 |fn a=>
  simp only[Hg]at h;split at h
  ·rename_i hd;exact R3 hex a 9 x v (QG hd) h
  ·cases h
variable (K)
def T9(A_s:List (KV U)):aS U:=
 {env:=fun t=>(A_s[t]?).getD .undef,H:=fun _=>⟨0,.dead⟩,N:=0}
def Yi(pos:Nat)(cs A_s:List (KV U)):aS U:=
 {env:=fun t=>((ic pos [KV.ptr 0 0 0] A_s)[t]?).getD .undef,H:=fun id=>(match Nat.beq id 0 with|true=>⟨0,.box cs⟩|false=>⟨0,.dead⟩),N:=1}
def TC{ρ:Type}(ex:Option Nat)(rs:List RV)(r:nn U)(k:aS U->r.den->Option ρ)(e:Exit)(S:aS U):Option ρ:=
 match e with
 | .ret| .normal=>(match GF S rs with
  |some x=>(match Hg K S ex r x with|some v=>k S v|none=>none)
  |none=>none)
 |_=>none
def ye(S:aS U):List RV->Bool
 |[]=>true
 | .tmp _::l=>ye S l
 | .cell t _::l=>(match S.env t with| .ptr id _ _=> !Nat.beq id 0|_=>false)&&ye S l
 def Ou(Γ:List (dk U))(sa:SA U)(rs:List RV)(A_s:List (dn U))(r:nn U)(a:dZ A_s):Option r.den:=
 pw K Γ sa [] (some (0,[])) (TC K none rs r fun _ v=>some v) (T9 (xh K A_s a))
 def UW(Γ:List (dk U))(sa:SA U)(rs:List RV)(pos:Nat)(R:U.Ty)(A_s:List (dn U))(r:nn U)(s:U.den R)(a:dZ A_s):Option (r.den×U.den R):=
 pw K Γ sa [] (some (0,[])) (TC K (some 0) rs r fun S v=>(match ye S rs with
  |true=>(match S.mL 0 0 with
   |some cs=>(match K.dec R mf cs with|some s'=>some (v,s')|none=>none)
   |none=>none)
  |false=>none)) (Yi pos (K.fD R s) (xh K A_s a))
 def nwK(Γ:List (dk U))(sa:SA U)(rs:List RV)(A_s:List (dn U))(R:U.Ty)(a:dZ A_s):Option (U.den R):=
 pw K Γ sa [] (some (0,[])) (fun e S=>(match e with
  | .ret=>(match GF S rs with
   |some (.ptr id ar 0)=>(match S.mL id ar with|some cs=>K.dec R mf cs|none=>none)
   |_=>none)
  |_=>none)) (T9 (xh K A_s a))
variable {K}
variable {P : Program} {nt : Nat}
theorem Cs:∀(A_s:List (dn U)) (a:dZ A_s),(fM A_s a).length=A_s.length
 |[],_=>by rw[fM];rfl
 |_::l,a=>by rw[fM,QE,Cs l a.2,QE]
theorem Sd(A_s:List (dn U))(a:dZ A_s):(T9 (xh K A_s a)).st=eH 0 false [] (fM A_s a):=by
 unfold T9 aS.st eH;congr 1
 ·funext t
  rw[<-zi K];simp only[Qq,Qu,K7,QT];cases (xh K A_s a)[t]?<;>rfl
theorem aaV(pos:Nat)(R:U.Ty)(s:U.den R)(A_s:List (dn U))(a:dZ A_s):(Yi pos (K.fD R s) (xh K A_s a)).st=eH pos true (U.pv R s) (fM A_s a):=by
 unfold Yi aS.st eH;congr 1
 ·funext t
  rw[<-zi K];simp only[Qt];have:(ic pos [PV.ptr 0 0 0] ((xh K A_s a).map KV.pv))=(ic pos [KV.ptr 0 0 0] (xh K A_s a)).map KV.pv:=by simp[ic,KV.pv]
  rw[this,QT];cases (ic pos [KV.ptr 0 0 0] (xh K A_s a))[t]?<;>rfl
 ·funext id
  cases id with
  |zero=>simp only[and_self,Qt,cV.pv,dz.pv,K.mZ]
  |succ id=>simp[Nat.beq,cV.pv,dz.pv]
theorem Lj{ρ:Type}{ex:Option Nat}{rs:List RV}{r:nn U}{k:aS U->r.den->Option ρ}{e:Exit}{S:aS U}{z:ρ}(h:TC K ex rs r k e S=some z):(e= .ret\/e= .normal)/\∃x v,GF S rs=some x/\Hg K S ex r x=some v/\k S v=some z:=by
 unfold TC at h
 have go:∀{o:Option ρ},o=some z->o=(match GF S rs with
  |some x=>(match Hg K S ex r x with|some v=>k S v|none=>none)
  |none=>none)->∃x v,GF S rs=some x/\Hg K S ex r x=some v/\k S v=some z:=by
  intro o ho he;rw[ho]at he;replace he:=he.symm;split at he
  ·rename_i x hx;split at he
   ·rename_i v hv;exact⟨x,v,hx,hv,he⟩
   ·cases he
  ·cases he
 split at h
 ·exact⟨.inl rfl,go h rfl⟩
 ·exact⟨.inr rfl,go h rfl⟩
 ·cases h
theorem Eb{f:FuncId}{Γ:List (dk U)}{sa:SA U}{rs:List RV}{A_s:List (dn U)}{r:nn U}(hf:o7 P f nt sa.erase rs)(hok:sa.du=true)(hlen:A_s.length<=nt)(hΓ:tN P Γ){F:dZ A_s->Option r.den}(hF:∀a,Ou K Γ sa rs A_s r a=F a):dk.Sound P (.fn f A_s r F):=by
 refine⟨hf.enters,fun a v hv=> ?_⟩
 rw[<-hF a]at hv;refine hf.Lq (by simpa[Cs]using hlen) ?_
 rw[<-Sd (K:=K)];refine(fG hΓ sa [] _ _ _ _ hok hv).mono ?_;rintro e A ⟨S',rfl,_,hk⟩;obtain⟨he,x,v',h1,h2,h3⟩:=Lj hk;injection h3 with h3
 subst h3
 have hret:xG rs false (fun r' cs''=>r'=sb r v'/\(false=true->cs''=[])) S'.st:=by
  unfold xG;rw[Jx h1];exact⟨RZ (fun id hid=>by cases hid) h2,fun h=>by cases h⟩
 rcases he with rfl|rfl<;>exact hret
theorem Vr{S:aS U}{id ar:Nat}{cs:List (KV U)}(hb:S.mL id ar=some cs){R:U.Ty}{s:U.den R}(hd:K.dec R mf cs=some s)(hN:id<S.N):(∀(E:En) (a:Act) (w:World) (L:Nat->Value),Rel E S.st a w L->∃L',Rel E {S.st with H:=bS S.st.H id ⟨ar,.box (U.pv R s)⟩} a w L'):=by
 intro E a w L h;obtain⟨h1,h2⟩:=py hb;have:=h.adk hN h2;rw[h1,(o4 (K.kH _ _ _ _ hd)).1]at this;exact⟨L,this⟩
theorem Ol(K:TK U)(R:U.Ty)(s:U.den R):(U.pv R s).all PV.closed=true:=QH.2 fun y hy=>hO (K.fp R s y hy)
theorem KG{f:FuncId}{Γ:List (dk U)}{sa:SA U}{rs:List RV}{pos:Nat}{R:U.Ty}{A_s:List (dn U)}{r:nn U}(hf:o7 P f nt sa.erase rs)(hok:sa.du=true)(hlen:1+A_s.length<=nt)(hΓ:tN P Γ)
  {F:U.den R->dZ A_s->Option (r.den×U.den R)} (hF:∀s a,UW K Γ sa rs pos R A_s r s a=F s a):dk.Sound P (.rc f pos R A_s r F):=by
 refine⟨hf.enters,fun s a v s' hv=> ?_⟩
 rw[<-hF s a]at hv;refine hf.Lq (by simpa[Cs]using hlen) ?_
 rw[<-aaV (K:=K)];refine(fG hΓ sa [] _ _ _ _ hok hv).post ?_;rintro e A ⟨S',rfl,hfr,hk⟩;obtain⟨he,x,v',h1,h2,h3⟩:=Lj hk;split at h3
 case h_2=>cases h3
 rename_i hnc;split at h3
 ·rename_i cs hb;split at h3
  ·rename_i s'' hd;injection h3 with h3
   injection h3 with h4 h5
   subst h4 h5;have hN:0<S'.N:=QJ (show 0<1 from Nat.one_pos) hfr.N
   refine⟨_,Vr hb hd hN,?_⟩;have h6:=Jx h1
   have hres:∀rs:List RV,ye S' rs=true->tk {S'.st with H:=bS S'.st.H 0 ⟨0,.box (U.pv R s'')⟩} rs=tk S'.st rs:=by
    intro rs hrs
    induction rs with
    |nil=>rfl
    |cons q rs ih=>
     cases q with
     |tmp t=>simp only[ye]at hrs;simp only[tk,yr,ih hrs]
     |cell t n=>
      simp only[ye,Qm]at hrs;have h9:=hrs.1;split at h9
      ·rename_i id ar off ht;have hne:id≠0:=by intro e;subst e;simp at h9
       have h10:S'.st.env t= .ptr id ar off:=by simp only[aS.st,ht,KV.pv]
       simp only[tk,yr,h10,cu _ _ hne,ih hrs.2]
      ·cases h9
   have hret:xG rs true (fun r' cs''=>r'=sb r v'/\(true=true->cs''=U.pv R s'')) {S'.st with H:=bS S'.st.H 0 ⟨0,.box (U.pv R s'')⟩}:=by
    unfold xG
    have h7:sU {S'.st with H:=bS S'.st.H 0 ⟨0,.box (U.pv R s'')⟩} rs=some x.pv:=by
     rw[<-h6];unfold sU;have h8:=hres rs hnc;simp only[h8]
    rw[h7];simp only[ca];refine⟨Ol K R s'',?_,by simp⟩
    have hbx:=(xg hb).2;rw[<-RZ (K:=K) (S:=S') (ex:=some 0) (fun id hid=>by injection hid with hid;subst hid;intro e k T xs hq;rw[hbx]at hq;cases hq) h2]
    have hz:∀(n:Nat) (y:PV),fz (bS S'.st.H 0 ⟨0,.box (U.pv R s'')⟩) (some 0) n y=fz S'.st.H (some 0) n y:=by
     intro n
     induction n with
     |zero=>intro y;simp only[fz]
     |succ n ih=>
      intro y;have hu:∀id,¬(some id=some 0)->bS S'.st.H 0 ⟨0,.box (U.pv R s'')⟩ id=S'.st.H id:=fun id hid=>cu _ _ (fun e=>hid (by rw[e]))
      have hm:fz (bS S'.st.H 0 ⟨0,.box (U.pv R s'')⟩) (some 0) n=fz S'.st.H (some 0) n:=funext ih
      cases y with
      |own id ar=>
       simp only[fz,hm]
       by_cases h0:some id=some 0
       ·rw[Qr (.inl h0),Qr (.inl h0)]
       ·rw[hu id h0]
      |ptr id ar off=>
       simp only[fz,hm]
       by_cases h0:some id=some 0
       ·rw[Qr (.inl h0),Qr (.inl h0)]
       ·rw[hu id h0]
      |agg cs=>simp only[fz,hm]
      |cX cs=>simp only[fz,hm]
      |cz f cs=>simp only[fz,hm]
      |_=>simp only[fz]
    exact hz 9 x.pv
   rcases he with rfl|rfl<;>exact hret
  ·cases h3
 ·cases h3
theorem Vs{f:FuncId}{Γ:List (dk U)}{sa:SA U}{t:Nat}{A_s:List (dn U)}{R:U.Ty}(hf:o7 P f nt sa.erase [.tmp t])(hok:sa.du=true)(hlen:A_s.length<=nt)(hΓ:tN P Γ){F:dZ A_s->Option (U.den R)}(hF:∀a,nwK K Γ sa [.tmp t] A_s R a=F a):dk.Sound P (.nw f A_s R F):=by
 refine⟨hf.enters,fun a s hv=> ?_⟩
 rw[<-hF a]at hv;refine hf.aeW (by simpa[Cs]using hlen) ?_
 rw[<-Sd (K:=K)];intro c hs hc E hE hkt a' w L hr;refine wpIn_mono (fG hΓ sa [] _ _ _ _ hok hv c hs hc E hE hkt a' w L hr) ?_;rintro e a2 w2 ⟨A,L2,hrel,S',rfl,_,hk⟩;split at hk
 ·split at hk
  ·rename_i id ar hx;split at hk
   ·rename_i cs hb
    have hre:S'.st.env t= .ptr id ar 0:=by
     have:=Jx hx;simpa[sU,tk,yr,KV.pv]using this
    have hN:id<S'.N:=by
     have:=hrel.env t;rw[hre]at this;exact(this.mM (show(S'.st.gh L2).V id=ar from(py hb).1)).1
    obtain⟨L3,h3⟩:=Vr hb hk hN E a2 w2 L2 hrel;refine⟨_,L3,h3,?_⟩
    have h7:sU {S'.st with H:=bS S'.st.H id ⟨ar,.box (U.pv R s)⟩} [.tmp t]=some (.ptr id ar 0):=by
     simp only[sU,tk,yr];rw[hre]
    simp only[Nr];rw[h7];simp only[ca,Qt];exact⟨Ol K R s,trivial⟩
   ·cases hk
  ·cases hk
 ·cases hk
variable (K)
variable {K}
end
end
section
def op{U:TU}(d:Nat)(x:bX)(r:RS U):RS U:= .op ⟨some d,none,x⟩ r
def ops{U:TU}(x:bX)(r:RS U):RS U:= .op ⟨none,none,x⟩ r
def ci(n:Int):bg:= .Ab (.int .i64 n)
def mc{U:TU}(d:Nat)(n:Int)(r:RS U):RS U:=op d (.Ga (ci n)) r
def aB(k:IntKind)(a b:Int):Int:=k.wrap (a+b)
def ez(k:IntKind)(a b:Int):Int:=k.wrap (a - b)
def sj(k:IntKind)(a b:Int):Int:=k.wrap (a*b)
def yw(k:IntKind)(a b:Int):Int:=k.wrap (a.tdiv b)
def Du(_:IntKind)(a b:Int):Int:=a.tmod b
def qQ(k:IntKind)(a b:Int):Int:=k.wrap ((BitVec.ofInt k.bits a&&&BitVec.ofInt k.bits b).toNat)
def qy(k:IntKind)(a b:Int):Int:=k.wrap ((BitVec.ofInt k.bits a|||BitVec.ofInt k.bits b).toNat)
def iY(k:IntKind)(a b:Int):Int:=k.wrap ((BitVec.ofInt k.bits a^^^BitVec.ofInt k.bits b).toNat)
def cP(k:IntKind)(a b:Int):Int:=k.wrap (a*2 ^ (min b.toNat k.bits))
def oi(k:IntKind)(a b:Int):Int:=a.fdiv (2 ^ (min b.toNat k.bits))
def bI(k:IntKind)(n:Int):Int:=k.wrap n
def eS(a b:Int):Int:=if b<a then b else a
def bV(a b:Int):Int:=if b>a then b else a
def ml(neg:Bool)(a b:Int)(s t:ByteArray):Bool:=xor neg (decide (a=b)&&decide (s=t))
def iV{A R:Type}(B:(A->Option R)->A->Option R):Nat->A->Option R
 |0,_=>none
 |n+1,a=>B (iV B n) a
def yQ{A C R:Type}(B:(A->C->Option R)->A->C->Option R):Nat->A->C->Option R
 |0,_,_=>none
 |n+1,a,c=>B (yQ B n) a c
section
variable {U : TU}
inductive RN (U:TU) where
 |ps (p:Ps U)
 |w4 (t:Nat)
 |two
 |pr
def WA(t:Nat):List SG->Option (List SG×SG×List SG)
 |[]=>none
 |o::r=>(match o.op with
  | .pick (.tmp t') _ _=>(match Nat.beq t t' with
   |true=>some ([],o,r)
   |false=>(match WA t r with|some (b,q,r')=>some (o::b,q,r')|none=>none))
  |_=>(match WA t r with|some (b,q,r')=>some (o::b,q,r')|none=>none))
def before(n:Nat):List (Nat×RN U)->List (Nat×RN U)
 |[]=>[]
 |(j,x)::l=>(match Nat.ble n j with|true=>[]|false=>(j,x)::before n l)
def after(n:Nat):List (Nat×RN U)->List (Nat×RN U)
 |[]=>[]
 |(j,x)::l=>(match Nat.ble n j with|true=>(j,x)::l|false=>after n l)
def tn(mm:Bool):Nat->List Nat->Nat->List SG->List (Nat×RN U)->RS U
 |0,_,_,_,_=> .nil
 |f+1,kn,i,[],ns=>(match ns with
  |(_,.ps p)::ns'=> .ps p (tn mm f kn i [] ns')
  |(_,.w4 t)::ns'=> .w4 t (tn mm f (t::kn) i [] ns')
  |_=> .nil)
 |f+1,kn,i,o::r,ns=>(match(match ns with|(j,_)::_=>Nat.beq j i|[]=>false)with
  |true=>(match ns with
   |(_,.ps p)::ns'=> .ps p (tn mm f kn i (o::r) ns')
   |(_,.w4 t)::ns'=> .w4 t (tn mm f (t::kn) i (o::r) ns')
   |(_,.two)::ns'=>(match o.op with
    | .call g [x,y]=> .two o.d g x y (tn mm f kn (Nat.succ i) r ns')
    |_=> .nil)
   |(_,.pr)::ns'=>(match o.d,o.op,r with
    |some t1,.call g [x],o2::r'=>(match o2.d,o2.op with
     |some t2,.call g2 _=> .pr t1 g g2 x t2 (tn mm f kn (Nat.succ (Nat.succ i)) r' ns')
     |_,_=> .nil)
    |_,_,_=> .nil)
   |[]=> .nil)
  |false=>(match o.g with
   |none=> .op o (tn mm f kn (Nat.succ i) r ns)
   |some (t,w)=>(match jH t kn with
    |true=> .op o (tn mm f kn (Nat.succ i) r ns)
    |false=>(match mm with
     |true=> .w4 t (tn mm f (t::kn) i (o::r) ns)
     |false=>(match WA t (o::r)with
      |some (b,q,r')=>(match q.op with
       | .pick _ x y=> .ite t w (tn mm f (t::kn) i b (before (Nat.add i b.length) ns)) (q.d.getD 0) q.g x y (tn mm f kn (Nat.succ (Nat.add i b.length)) r' (after (Nat.add i b.length) ns))
       |_=> .nil)
      |none=> .nil)))))
inductive NT (U:TU) where
 |e
 |l (x:NT U)
 |r (x:NT U)
 |b (x y:NT U)
 |ps (p:Ps U) (x:NT U)
 |AY (p:Ps U) (x:NT U)
 |j (J:JS U) (x:NT U)
 |u (n:Nat) (x:NT U)
 |k (J:JS U) (f k:Nat) (nE:Option Nat) (T:U.Ty) (x:NT U)
 |g (ns:List (Nat×RN U))
def NT.lt:NT U->NT U
 | .l x=>x
 | .b x _=>x
 | .j _ x=>x.lt
 | .k _ _ _ _ _ x=>x.lt
 | .ps _ x=>x.lt
 | .AY _ x=>x.lt
 |_=> .e
def NT.rt:NT U->NT U
 | .r x=>x
 | .b _ x=>x
 | .j _ x=>x.rt
 | .k _ _ _ _ _ x=>x.rt
 | .ps _ x=>x.rt
 | .AY _ x=>x.rt
 |_=> .e
def NT.wrap:NT U->SA U->SA U
 | .ps p x,s=> .ps p (x.wrap s)
 | .AY p x,s=> .AY p (x.wrap s)
 |_,s=>s
def NT.core:NT U->NT U
 | .ps _ x=>x.core
 | .AY _ x=>x.core
 |x=>x
def iN:SC->NT U->SA U
 | .skip,t=>t.wrap .skip
 | .Dv ops,t=>t.wrap (.Dv (match t.core with| .g ns=>tn false 4000 [] 0 ops ns|_=>tn false 4000 [] 0 ops []))
 | .mm un ops,t=>t.wrap (.mm un (match t.core with| .g ns=>tn true 4000 [] 0 ops ns|_=>tn true 4000 [] 0 ops []))
 | .seq x y,t=>t.wrap (match t.core with
  | .j J u=> .join J (iN x u.lt) (iN y u.rt)
  |u=> .seq (iN x u.lt) (iN y u.rt))
 | .cond c x y,t=>t.wrap (.cond c (iN x t.lt) (iN y t.rt))
 | .block id x,t=>t.wrap (.block id (iN x t.lt))
 | .loop x,t=>t.wrap (match t.core with
  | .j J u=> .loop J (iN x u.lt)
  | .u n t=> .Uz n (iN x t.lt)
  |_=> .loop ⟨[],[]⟩ (iN x t.lt))
 | .exit id,t=>t.wrap (.exit id)
 | .ret,t=>t.wrap .ret
def mI(P:Program)(nt:Nat)(hs:List Nat)(fn:Func):SC:=(fn.body.bind (bO P nt hs)).getD .skip
end
section
variable {U : TU} {P : Program}
structure KS (U:TU) (P:Program) where
 k:dk U
 s:k.Sound P
def KS.ks:List (KS U P)->List (dk U)
 |[]=>[]
 |x::l=>x.k::KS.ks l
theorem KS.all:∀l:List (KS U P),tN P (KS.ks l)
 |[]=>trivial
 |x::l=>⟨x.s,KS.all l⟩
variable {K : TK U} {f : FuncId} {A_s : List (dn U)} {r : nn U} {e k : Nat} {T R : U.Ty}
theorem fk{f nt:Nat}{c:SC}{rs:List RV}(fn:Func)(hs:List Nat)(hf:P.funcs[f]?=some fn)(h0:fn.ntmps=nt:=by rfl)(h1:(fn.body.bind (bO P nt hs))=some c:=by kernel_rfl)(h2:mn P fn.results.toList=some rs:=by kernel_rfl)(h3:(fn.name== "runtime.NumGoroutine")=false:=by kernel_rfl):o7 P f nt c rs:=⟨fn,hs,hf,h0,h1,h2,h3⟩
theorem fnS(sa:SA U)(nt:Nat)(rs:List RV)(G:List (KS U P))(hf:o7 P f nt sa.erase rs)(hok:sa.du=true:=by kernel_rfl)(hlen:A_s.length<=nt:=by decide){F:dZ A_s->Option r.den}(hF:Ou K (KS.ks G) sa rs A_s r=F:=by kernel_rfl):dk.Sound P (.fn f A_s r F):=
 Eb hf hok hlen (KS.all G) fun a=>congrFun hF a
theorem rcS{pos:Nat}(sa:SA U)(nt:Nat)(rs:List RV)(G:List (KS U P))(hf:o7 P f nt sa.erase rs)(hok:sa.du=true:=by kernel_rfl)(hlen:1+A_s.length<=nt:=by decide){F:U.den R->dZ A_s->Option (r.den×U.den R)}(hF:UW K (KS.ks G) sa rs pos R A_s r=F:=by kernel_rfl):dk.Sound P (.rc f pos R A_s r F):=
 KG hf hok hlen (KS.all G) fun s a=>congrFun (congrFun hF s) a
theorem nwS(sa:SA U)(nt t:Nat)(G:List (KS U P))(hf:o7 P f nt sa.erase [.tmp t])(hok:sa.du=true:=by kernel_rfl)(hlen:A_s.length<=nt:=by decide){F:dZ A_s->Option (U.den R)}(hF:nwK K (KS.ks G) sa [.tmp t] A_s R=F:=by kernel_rfl):dk.Sound P (.nw f A_s R F):=
 Vs hf hok hlen (KS.all G) fun a=>congrFun hF a
theorem fnR(sa:SA U)(nt:Nat)(rs:List RV)(G:List (KS U P))(hf:o7 P f nt sa.erase rs)(hok:sa.du=true:=by kernel_rfl)(hlen:A_s.length<=nt:=by decide){B:(dZ A_s->Option r.den)->dZ A_s->Option r.den}(hB:(fun g=>Ou K (.fn f A_s r g::KS.ks G) sa rs A_s r)=B):∀n,dk.Sound P (.fn f A_s r (iV B n))
 |0=>⟨hf.enters,fun a r h=>by cases h⟩
 |n+1=>Eb (K:=K) (Γ:= .fn f A_s r (iV B n)::KS.ks G) (F:=iV B (n+1)) hf hok hlen ⟨fnR sa nt rs G hf hok hlen hB n,KS.all G⟩ fun a=>congrFun (congrFun hB (iV B n)) a
theorem xu(sa:SA U)(nt:Nat)(rs:List RV)(G:List (KS U P))(hf:o7 P f nt sa.erase rs)(hok:sa.du=true:=by kernel_rfl)(hlen:A_s.length<=nt:=by decide){B:(dZ A_s->Option r.den)->dZ A_s->Option r.den}(hB:(fun g=>Ou K (.fn f A_s r g::KS.ks G) sa rs A_s r)=B:=by kernel_rfl){F:dZ A_s->Option r.den}(hF:∀a,∃n,F a=iV B n a):dk.Sound P (.fn f A_s r F):=
 ⟨hf.enters,fun a r h=>by
  obtain⟨n,hn⟩:=hF a;rw[hn]at h
  exact(fnR sa nt rs G hf hok hlen hB n).2 a r h⟩
theorem Tu(sa:SA U)(nt:Nat)(rs:List RV)(G:(g:dZ A_s->Option r.den)->dk.Sound P (.fn f A_s r g)->List (KS U P))(hf:o7 P f nt sa.erase rs)(hok:sa.du=true:=by kernel_rfl)(hlen:A_s.length<=nt:=by decide){B:(dZ A_s->Option r.den)->dZ A_s->Option r.den}(hB:(fun g h=>Ou K (.fn f A_s r g::KS.ks (G g h)) sa rs A_s r)=fun g _=>B g):∀n,dk.Sound P (.fn f A_s r (iV B n))
 |0=>⟨hf.enters,fun a r h=>by cases h⟩
 |n+1=>Eb (K:=K) (Γ:= .fn f A_s r (iV B n)::KS.ks (G (iV B n) (Tu sa nt rs G hf hok hlen hB n))) (F:=iV B (n+1)) hf hok hlen ⟨Tu sa nt rs G hf hok hlen hB n,KS.all _⟩ fun a=>congrFun (congrFun (congrFun hB (iV B n)) (Tu sa nt rs G hf hok hlen hB n)) a
theorem adQ(sa:SA U)(nt:Nat)(rs:List RV)(G:(g:dZ A_s->Option r.den)->dk.Sound P (.fn f A_s r g)->List (KS U P))(hf:o7 P f nt sa.erase rs)(hok:sa.du=true:=by kernel_rfl)(hlen:A_s.length<=nt:=by decide){B:(dZ A_s->Option r.den)->dZ A_s->Option r.den}(hB:(fun g h=>Ou K (.fn f A_s r g::KS.ks (G g h)) sa rs A_s r)=(fun g _=>B g):=by kernel_rfl){F:dZ A_s->Option r.den}(hF:∀a,∃n,F a=iV B n a):dk.Sound P (.fn f A_s r F):=
 ⟨hf.enters,fun a r h=>by
  obtain⟨n,hn⟩:=hF a;rw[hn]at h
  exact(Tu sa nt rs G hf hok hlen hB n).2 a r h⟩
theorem rcR{pos:Nat}(sa:SA U)(nt:Nat)(rs:List RV)(G:List (KS U P))(hf:o7 P f nt sa.erase rs)(hok:sa.du=true:=by kernel_rfl)(hlen:1+A_s.length<=nt:=by decide){B:(U.den R->dZ A_s->Option (r.den×U.den R))->U.den R->dZ A_s->Option (r.den×U.den R)}(hB:(fun g=>UW K (.rc f pos R A_s r g::KS.ks G) sa rs pos R A_s r)=B):∀n,dk.Sound P (.rc f pos R A_s r (yQ B n))
 |0=>⟨hf.enters,fun s a r ys h=>by cases h⟩
 |n+1=>KG (K:=K) (Γ:= .rc f pos R A_s r (yQ B n)::KS.ks G) (F:=yQ B (n+1)) hf hok hlen ⟨rcR sa nt rs G hf hok hlen hB n,KS.all G⟩ fun s a=>congrFun (congrFun (congrFun hB (yQ B n)) s) a
theorem aeH{pos:Nat}(sa:SA U)(nt:Nat)(rs:List RV)(G:List (KS U P))(hf:o7 P f nt sa.erase rs)(hok:sa.du=true:=by kernel_rfl)(hlen:1+A_s.length<=nt:=by decide){B:(U.den R->dZ A_s->Option (r.den×U.den R))->U.den R->dZ A_s->Option (r.den×U.den R)}(hB:(fun g=>UW K (.rc f pos R A_s r g::KS.ks G) sa rs pos R A_s r)=B:=by kernel_rfl){F:U.den R->dZ A_s->Option (r.den×U.den R)}(hF:∀s a,∃n,F s a=yQ B n s a):dk.Sound P (.rc f pos R A_s r F):=
 ⟨hf.enters,fun s a r ys h=>by
  obtain⟨n,hn⟩:=hF s a;rw[hn]at h
  exact(rcR sa nt rs G hf hok hlen hB n).2 s a r ys h⟩
end
end
section
structure ab where
 aM:Int
 aH:(List Int)
 aL:(List ab)
theorem ab.eta(x:ab):ab.mk x.aM x.aH x.aL=x:=by cases x;rfl
@[reducible] def ae (x:ab):ab:=ab.mk x.aM x.aH x.aL
structure ax where
 aq:Int
 aO:Int
 aa:ab
 cx:(List ByteArray)
 bo:(List ByteArray)
@[simp] theorem ax.eta (x:ax):ax.mk x.aq x.aO x.aa x.cx x.bo=x:=rfl
structure ao where
 an:Int
 Value:ByteArray
@[simp] theorem ao.eta (x:ao):ao.mk x.an x.Value=x:=rfl
structure ak where
 aq:Int
 aE:Int
 aO:Int
 aa:ab
 az:Int
 aj:ao
 av:ao
 aJ:ao
 bf:Int
 bM:Int
@[simp] theorem ak.eta (x:ak):ak.mk x.aq x.aE x.aO x.aa x.az x.aj x.av x.aJ x.bf x.bM=x:=rfl
structure aQ where
 az:Int
 aE:Int
 al:ax
 ai:ak
@[simp] theorem aQ.eta (x:aQ):aQ.mk x.az x.aE x.al x.ai=x:=rfl
structure aI where
 az:Int
 aq:Int
 To:Int
 aE:Int
 Count:Int
 Value:ByteArray
 aa:ab
 af:aQ
 bx:(List Int)
@[simp] theorem aI.eta (x:aI):aI.mk x.az x.aq x.To x.aE x.Count x.Value x.aa x.af x.bx=x:=rfl
structure aU where
 dD:Bool
 aa:ab
@[simp] theorem aU.eta (x:aU):aU.mk x.dD x.aa=x:=rfl
structure bQ where
 bq:(List aU)
@[simp] theorem bQ.eta (x:bQ):bQ.mk x.bq=x:=rfl
structure aA where
 aq:Int
 aE:Int
 Round:Int
 aO:Int
 aa:ab
 Own:ByteArray
 cx:(List ByteArray)
 bo:(List ByteArray)
 dG:(List ByteArray)
 aF:(List ax)
@[simp] theorem aA.eta (x:aA):aA.mk x.aq x.aE x.Round x.aO x.aa x.Own x.cx x.bo x.dG x.aF=x:=rfl
structure ah where
 aq:Int
 aE:Int
 aO:Int
 aa:ab
 ba:Int
 aj:ao
 av:ao
 aJ:ao
 aC:ao
 bf:Int
 bM:Int
 bU:ByteArray
 aF:(List ak)
@[simp] theorem ah.eta (x:ah):ah.mk x.aq x.aE x.aO x.aa x.ba x.aj x.av x.aJ x.aC x.bf x.bM x.bU x.aF=x:=rfl
structure dX where
 an:Int
 nC:Int
@[simp] theorem dX.eta (x:dX):dX.mk x.an x.nC=x:=rfl
structure bw where
 aw:aA
 au:ah
 Timer:dX
 Round:Int
 Next:Int
 AJ:Bool
 Value:ByteArray
@[simp] theorem bw.eta (x:bw):bw.mk x.aw x.au x.Timer x.Round x.Next x.AJ x.Value=x:=rfl
structure ay where
 aq:Int
 kU:Bool
 aa:ab
 bE:(List bw)
@[simp] theorem ay.eta (x:ay):ay.mk x.aq x.kU x.aa x.bE=x:=rfl
structure bD where
 nC:Int
 o6:Int
 To:Int
 Number:Int
 af:aQ
@[simp] theorem bD.eta (x:bD):bD.mk x.nC x.o6 x.To x.Number x.af=x:=rfl
structure aY where
 bh:(List bD)
 Next:Int
 bx:(List Int)
 eO:(List Int)
@[simp] theorem aY.eta (x:aY):aY.mk x.bh x.Next x.bx x.eO=x:=rfl
structure aZ where
 Time:Int
 aH:(List ay)
 LA:Int
 Net:aY
 cM:(List (List ab))
@[simp] theorem aZ.eta (x:aZ):aZ.mk x.Time x.aH x.LA x.Net x.cM=x:=rfl
structure cr where
 L:(List Int)
 At:Int
@[simp] theorem cr.eta (x:cr):cr.mk x.L x.At=x:=rfl
structure bl where
 l:(List ByteArray)
 bad:Bool
@[simp] theorem bl.eta (x:bl):bl.mk x.l x.bad=x:=rfl
structure aK where
 text:ByteArray
 token:ByteArray
 at_:Int
@[simp] theorem aK.eta (x:aK):aK.mk x.text x.token x.at_=x:=rfl
structure jN where
 uP:Int
 Value:Int
@[simp] theorem jN.eta (x:jN):jN.mk x.uP x.Value=x:=rfl
structure gw where
 aq:Int
 aO:Int
 aa:ab
 cx:(List jN)
 bo:(List jN)
@[simp] theorem gw.eta (x:gw):gw.mk x.aq x.aO x.aa x.cx x.bo=x:=rfl
structure nN where
 c0:ao
 c1:ao
@[simp] theorem nN.eta (x:nN):nN.mk x.c0 x.c1=x:=rfl
structure tF where
 c0:Int
 c1:Int
@[simp] theorem tF.eta (x:tF):tF.mk x.c0 x.c1=x:=rfl
structure kT where
 Ws:Int
 Wv:Int
@[simp] theorem kT.eta (x:kT):kT.mk x.Ws x.Wv=x:=rfl
attribute [simp] ab.eta
structure cN where
 xB:Bool
 n:Int
 s:ByteArray
@[simp] theorem cN.eta (x:cN):cN.mk x.xB x.n x.s=x:=rfl
def UC:Nat:=3
def UB:Nat:=9
inductive kW where
 |aa
 |al
 |aj
 |ai
 |af
 |Step
 |pA
 |Config
 |aw
 |au
 |Timer
 |aE
 |hU
 |np
 |pP
 |World
 |Src
 |dC
 |gg
 |Claim
 |Message
 |lN
 |pR
 |zo
 deriving DecidableEq
inductive Ty where
 |i (k:IntKind)
 |bool
 |dyn
 |err
 |str
 |sl (t:Ty)
 |mp (a b:Ty)
 |st (n:kW)
def kW.den:kW->Type
 | .aa=>ab
 | .al=>ax
 | .aj=>ao
 | .ai=>ak
 | .af=>aQ
 | .Step=>aI
 | .pA=>aU
 | .Config=>bQ
 | .aw=>aA
 | .au=>ah
 | .Timer=>dX
 | .aE=>bw
 | .hU=>ay
 | .np=>bD
 | .pP=>aY
 | .World=>aZ
 | .Src=>cr
 | .dC=>bl
 | .gg=>aK
 | .Claim=>jN
 | .Message=>gw
 | .lN=>nN
 | .pR=>tF
 | .zo=>kT
def Ty.den:Ty->Type
 | .i _=>Int
 | .dyn=>cN
 | .err=>Bool
 | .bool=>Bool
 | .str=>ByteArray
 | .sl t=>List t.den
 | .mp a b=>List (a.den×b.den)
 | .st n=>n.den
def Ty.beq:Ty->Ty->Bool
 | .i k,.i k'=>decide (k=k')
 | .dyn,.dyn=>true
 | .err,.err=>true
 | .bool,.bool=>true
 | .str,.str=>true
 | .sl t,.sl t'=>Ty.beq t t'
 | .mp a b,.mp a' b'=>Ty.beq a a'&&Ty.beq b b'
 | .st n,.st n'=>decide (n=n')
 |_,_=>false
theorem Ty.eq_of_beq:∀{a b:Ty},Ty.beq a b=true->a=b
 | .i k,.i k',h=>by rw[of_decide_eq_true h]
 | .dyn,.dyn,_=>rfl
 | .err,.err,_=>rfl
 | .i _,.dyn,h=>by cases h
 | .i _,.err,h=>by cases h
 | .bool,.dyn,h=>by cases h
 | .bool,.err,h=>by cases h
 | .str,.dyn,h=>by cases h
 | .str,.err,h=>by cases h
 | .sl _,.dyn,h=>by cases h
 | .sl _,.err,h=>by cases h
 | .mp _ _,.dyn,h=>by cases h
 | .mp _ _,.err,h=>by cases h
 | .st _,.dyn,h=>by cases h
 | .st _,.err,h=>by cases h
 | .dyn,.i _,h=>by cases h
 | .dyn,.bool,h=>by cases h
 | .dyn,.str,h=>by cases h
 | .dyn,.sl _,h=>by cases h
 | .dyn,.mp _ _,h=>by cases h
 | .dyn,.st _,h=>by cases h
 | .dyn,.err,h=>by cases h
 | .err,.i _,h=>by cases h
 | .err,.bool,h=>by cases h
 | .err,.str,h=>by cases h
 | .err,.sl _,h=>by cases h
 | .err,.mp _ _,h=>by cases h
 | .err,.st _,h=>by cases h
 | .err,.dyn,h=>by cases h
 | .bool,.bool,_=>rfl
 | .str,.str,_=>rfl
 | .sl t,.sl t',h=>by rw[Ty.eq_of_beq (a:=t) (b:=t') h]
 | .mp a b,.mp a' b',h=>by
  rw[Ty.beq,Qm]at h;rw[Ty.eq_of_beq (a:=a) (b:=a') h.1,Ty.eq_of_beq (a:=b) (b:=b') h.2]
 | .st n,.st n',h=>by rw[of_decide_eq_true h]
 | .i _,.bool,h=>by cases h
 | .i _,.str,h=>by cases h
 | .i _,.sl _,h=>by cases h
 | .i _,.st _,h=>by cases h
 | .bool,.i _,h=>by cases h
 | .bool,.str,h=>by cases h
 | .bool,.sl _,h=>by cases h
 | .bool,.st _,h=>by cases h
 | .str,.i _,h=>by cases h
 | .str,.bool,h=>by cases h
 | .str,.sl _,h=>by cases h
 | .str,.st _,h=>by cases h
 | .sl _,.i _,h=>by cases h
 | .sl _,.bool,h=>by cases h
 | .sl _,.str,h=>by cases h
 | .sl _,.st _,h=>by cases h
 | .st _,.i _,h=>by cases h
 | .st _,.bool,h=>by cases h
 | .st _,.str,h=>by cases h
 | .st _,.sl _,h=>by cases h
 | .mp _ _,.i _,h=>by cases h
 | .i _,.mp _ _,h=>by cases h
 | .mp _ _,.bool,h=>by cases h
 | .bool,.mp _ _,h=>by cases h
 | .mp _ _,.str,h=>by cases h
 | .str,.mp _ _,h=>by cases h
 | .mp _ _,.sl _,h=>by cases h
 | .sl _,.mp _ _,h=>by cases h
 | .mp _ _,.st _,h=>by cases h
 | .st _,.mp _ _,h=>by cases h
theorem Ty.Cr:∀(a:Ty),Ty.beq a a=true
 | .i k=>Qg rfl
 | .dyn=>rfl
 | .err=>rfl
 | .bool=>rfl
 | .str=>rfl
 | .sl t=>Ty.Cr t
 | .mp a b=>by rw[Ty.beq,Ty.Cr a,Ty.Cr b];rfl
 | .st n=>Qg rfl
def Ty.RY(a b:Ty):Decidable (a=b):=
 match h:Ty.beq a b with
 |true=>isTrue (Ty.eq_of_beq h)
 |false=>isFalse fun e=>by rw[e,Ty.Cr]at h;cases h
@[reducible] def zn:List Ty->Type
 |[]=>Unit
 |t::l=>t.den×zn l
def kW.leaves:kW->List Ty
 | .aa=>[(Ty.i .i64),(Ty.sl (Ty.i .i64)),(Ty.sl (Ty.st .aa))]
 | .al=>[(Ty.i .i64),(Ty.i .i64),(Ty.i .i64),(Ty.sl (Ty.i .i64)),(Ty.sl (Ty.st .aa)),(Ty.sl Ty.str),(Ty.sl Ty.str)]
 | .aj=>[(Ty.i .i64),Ty.str]
 | .ai=>[(Ty.i .i64),(Ty.i .i64),(Ty.i .i64),(Ty.i .i64),(Ty.sl (Ty.i .i64)),(Ty.sl (Ty.st .aa)),(Ty.i .i64),(Ty.i .i64),Ty.str,(Ty.i .i64),Ty.str,(Ty.i .i64),Ty.str,(Ty.i .i64),(Ty.i .i64)]
 | .af=>[(Ty.i .i64),(Ty.i .i64),(Ty.i .i64),(Ty.i .i64),(Ty.i .i64),(Ty.sl (Ty.i .i64)),(Ty.sl (Ty.st .aa)),(Ty.sl Ty.str),(Ty.sl Ty.str),(Ty.i .i64),(Ty.i .i64),(Ty.i .i64),(Ty.i .i64),(Ty.sl (Ty.i .i64)),(Ty.sl (Ty.st .aa)),(Ty.i .i64),(Ty.i .i64),Ty.str,(Ty.i .i64),Ty.str,(Ty.i .i64),Ty.str,(Ty.i .i64),(Ty.i .i64)]
 | .Step=>[(Ty.i .i64),(Ty.i .i64),(Ty.i .i64),(Ty.i .i64),(Ty.i .i64),Ty.str,(Ty.i .i64),(Ty.sl (Ty.i .i64)),(Ty.sl (Ty.st .aa)),(Ty.i .i64),(Ty.i .i64),(Ty.i .i64),(Ty.i .i64),(Ty.i .i64),(Ty.sl (Ty.i .i64)),(Ty.sl (Ty.st .aa)),(Ty.sl Ty.str),(Ty.sl Ty.str),(Ty.i .i64),(Ty.i .i64),(Ty.i .i64),(Ty.i .i64),(Ty.sl (Ty.i .i64)),(Ty.sl (Ty.st .aa)),(Ty.i .i64),(Ty.i .i64),Ty.str,(Ty.i .i64),Ty.str,(Ty.i .i64),Ty.str,(Ty.i .i64),(Ty.i .i64),(Ty.sl (Ty.i .i64))]
 | .pA=>[Ty.bool,(Ty.i .i64),(Ty.sl (Ty.i .i64)),(Ty.sl (Ty.st .aa))]
 | .Config=>[(Ty.sl (Ty.st .pA))]
 | .aw=>[(Ty.i .i64),(Ty.i .i64),(Ty.i .i64),(Ty.i .i64),(Ty.i .i64),(Ty.sl (Ty.i .i64)),(Ty.sl (Ty.st .aa)),Ty.str,(Ty.sl Ty.str),(Ty.sl Ty.str),(Ty.sl Ty.str),(Ty.sl (Ty.st .al))]
 | .au=>[(Ty.i .i64),(Ty.i .i64),(Ty.i .i64),(Ty.i .i64),(Ty.sl (Ty.i .i64)),(Ty.sl (Ty.st .aa)),(Ty.i .i64),(Ty.i .i64),Ty.str,(Ty.i .i64),Ty.str,(Ty.i .i64),Ty.str,(Ty.i .i64),Ty.str,(Ty.i .i64),(Ty.i .i64),Ty.str,(Ty.sl (Ty.st .ai))]
 | .Timer=>[(Ty.i .i64),(Ty.i .i64)]
 | .aE=>[(Ty.i .i64),(Ty.i .i64),(Ty.i .i64),(Ty.i .i64),(Ty.i .i64),(Ty.sl (Ty.i .i64)),(Ty.sl (Ty.st .aa)),Ty.str,(Ty.sl Ty.str),(Ty.sl Ty.str),(Ty.sl Ty.str),(Ty.sl (Ty.st .al)),(Ty.i .i64),(Ty.i .i64),(Ty.i .i64),(Ty.i .i64),(Ty.sl (Ty.i .i64)),(Ty.sl (Ty.st .aa)),(Ty.i .i64),(Ty.i .i64),Ty.str,(Ty.i .i64),Ty.str,(Ty.i .i64),Ty.str,(Ty.i .i64),Ty.str,(Ty.i .i64),(Ty.i .i64),Ty.str,(Ty.sl (Ty.st .ai)),(Ty.i .i64),(Ty.i .i64),(Ty.i .i64),(Ty.i .i64),Ty.bool,Ty.str]
 | .hU=>[(Ty.i .i64),Ty.bool,(Ty.i .i64),(Ty.sl (Ty.i .i64)),(Ty.sl (Ty.st .aa)),(Ty.sl (Ty.st .aE))]
 | .np=>[(Ty.i .i64),(Ty.i .i64),(Ty.i .i64),(Ty.i .i64),(Ty.i .i64),(Ty.i .i64),(Ty.i .i64),(Ty.i .i64),(Ty.i .i64),(Ty.sl (Ty.i .i64)),(Ty.sl (Ty.st .aa)),(Ty.sl Ty.str),(Ty.sl Ty.str),(Ty.i .i64),(Ty.i .i64),(Ty.i .i64),(Ty.i .i64),(Ty.sl (Ty.i .i64)),(Ty.sl (Ty.st .aa)),(Ty.i .i64),(Ty.i .i64),Ty.str,(Ty.i .i64),Ty.str,(Ty.i .i64),Ty.str,(Ty.i .i64),(Ty.i .i64)]
 | .pP=>[(Ty.sl (Ty.st .np)),(Ty.i .i64),(Ty.sl (Ty.i .i64)),(Ty.sl (Ty.i .i64))]
 | .World=>[(Ty.i .i64),(Ty.sl (Ty.st .hU)),(Ty.i .i64),(Ty.sl (Ty.st .np)),(Ty.i .i64),(Ty.sl (Ty.i .i64)),(Ty.sl (Ty.i .i64)),(Ty.sl (Ty.sl (Ty.st .aa)))]
 | .Src=>[(Ty.sl (Ty.i .i64)),(Ty.i .i64)]
 | .dC=>[(Ty.sl Ty.str),Ty.bool]
 | .gg=>[Ty.str,Ty.str,(Ty.i .i64)]
 | .Claim=>[(Ty.i .i64),(Ty.i .i64)]
 | .Message=>[(Ty.i .i64),(Ty.i .i64),(Ty.i .i64),(Ty.sl (Ty.i .i64)),(Ty.sl (Ty.st .aa)),(Ty.sl (Ty.st .Claim)),(Ty.sl (Ty.st .Claim))]
 | .lN=>[(Ty.i .i64),Ty.str,(Ty.i .i64),Ty.str]
 | .pR=>[(Ty.i .i64),(Ty.i .i64)]
 | .zo=>[(Ty.i .i64),(Ty.i .i64)]
def kW.toL:(n:kW)->n.den->zn n.leaves
 | .aa,(v:ab)=>(v.aM,v.aH,v.aL,())
 | .al,(v:ax)=>(v.aq,v.aO,v.aa.aM,v.aa.aH,v.aa.aL,v.cx,v.bo,())
 | .aj,(v:ao)=>(v.an,v.Value,())
 | .ai,(v:ak)=>(v.aq,v.aE,v.aO,v.aa.aM,v.aa.aH,v.aa.aL,v.az,v.aj.an,v.aj.Value,v.av.an,v.av.Value,v.aJ.an,v.aJ.Value,v.bf,v.bM,())
 | .af,(v:aQ)=>(v.az,v.aE,v.al.aq,v.al.aO,v.al.aa.aM,v.al.aa.aH,v.al.aa.aL,v.al.cx,v.al.bo,v.ai.aq,v.ai.aE,v.ai.aO,v.ai.aa.aM,v.ai.aa.aH,v.ai.aa.aL,v.ai.az,v.ai.aj.an,v.ai.aj.Value,v.ai.av.an,v.ai.av.Value,v.ai.aJ.an,v.ai.aJ.Value,v.ai.bf,v.ai.bM,())
 | .Step,(v:aI)=>(v.az,v.aq,v.To,v.aE,v.Count,v.Value,v.aa.aM,v.aa.aH,v.aa.aL,v.af.az,v.af.aE,v.af.al.aq,v.af.al.aO,v.af.al.aa.aM,v.af.al.aa.aH,v.af.al.aa.aL,v.af.al.cx,v.af.al.bo,v.af.ai.aq,v.af.ai.aE,v.af.ai.aO,v.af.ai.aa.aM,v.af.ai.aa.aH,v.af.ai.aa.aL,v.af.ai.az,v.af.ai.aj.an,v.af.ai.aj.Value,v.af.ai.av.an,v.af.ai.av.Value,v.af.ai.aJ.an,v.af.ai.aJ.Value,v.af.ai.bf,v.af.ai.bM,v.bx,())
 | .pA,(v:aU)=>(v.dD,v.aa.aM,v.aa.aH,v.aa.aL,())
 | .Config,(v:bQ)=>(v.bq,())
 | .aw,(v:aA)=>(v.aq,v.aE,v.Round,v.aO,v.aa.aM,v.aa.aH,v.aa.aL,v.Own,v.cx,v.bo,v.dG,v.aF,())
 | .au,(v:ah)=>(v.aq,v.aE,v.aO,v.aa.aM,v.aa.aH,v.aa.aL,v.ba,v.aj.an,v.aj.Value,v.av.an,v.av.Value,v.aJ.an,v.aJ.Value,v.aC.an,v.aC.Value,v.bf,v.bM,v.bU,v.aF,())
 | .Timer,(v:dX)=>(v.an,v.nC,())
 | .aE,(v:bw)=>(v.aw.aq,v.aw.aE,v.aw.Round,v.aw.aO,v.aw.aa.aM,v.aw.aa.aH,v.aw.aa.aL,v.aw.Own,v.aw.cx,v.aw.bo,v.aw.dG,v.aw.aF,v.au.aq,v.au.aE,v.au.aO,v.au.aa.aM,v.au.aa.aH,v.au.aa.aL,v.au.ba,v.au.aj.an,v.au.aj.Value,v.au.av.an,v.au.av.Value,v.au.aJ.an,v.au.aJ.Value,v.au.aC.an,v.au.aC.Value,v.au.bf,v.au.bM,v.au.bU,v.au.aF,v.Timer.an,v.Timer.nC,v.Round,v.Next,v.AJ,v.Value,())
 | .hU,(v:ay)=>(v.aq,v.kU,v.aa.aM,v.aa.aH,v.aa.aL,v.bE,())
 | .np,(v:bD)=>(v.nC,v.o6,v.To,v.Number,v.af.az,v.af.aE,v.af.al.aq,v.af.al.aO,v.af.al.aa.aM,v.af.al.aa.aH,v.af.al.aa.aL,v.af.al.cx,v.af.al.bo,v.af.ai.aq,v.af.ai.aE,v.af.ai.aO,v.af.ai.aa.aM,v.af.ai.aa.aH,v.af.ai.aa.aL,v.af.ai.az,v.af.ai.aj.an,v.af.ai.aj.Value,v.af.ai.av.an,v.af.ai.av.Value,v.af.ai.aJ.an,v.af.ai.aJ.Value,v.af.ai.bf,v.af.ai.bM,())
 | .pP,(v:aY)=>(v.bh,v.Next,v.bx,v.eO,())
 | .World,(v:aZ)=>(v.Time,v.aH,v.LA,v.Net.bh,v.Net.Next,v.Net.bx,v.Net.eO,v.cM,())
 | .Src,(v:cr)=>(v.L,v.At,())
 | .dC,(v:bl)=>(v.l,v.bad,())
 | .gg,(v:aK)=>(v.text,v.token,v.at_,())
 | .Claim,(v:jN)=>(v.uP,v.Value,())
 | .Message,(v:gw)=>(v.aq,v.aO,v.aa.aM,v.aa.aH,v.aa.aL,v.cx,v.bo,())
 | .lN,(v:nN)=>(v.c0.an,v.c0.Value,v.c1.an,v.c1.Value,())
 | .pR,(v:tF)=>(v.c0,v.c1,())
 | .zo,(v:kT)=>(v.Ws,v.Wv,())
def kW.YA:(n:kW)->zn n.leaves->n.den
 | .aa,v=>(ab.mk v.1 v.2.1 v.2.2.1)
 | .al,v=>(ax.mk v.1 v.2.1 (ab.mk v.2.2.1 v.2.2.2.1 v.2.2.2.2.1) v.2.2.2.2.2.1 v.2.2.2.2.2.2.1)
 | .aj,v=>(ao.mk v.1 v.2.1)
 | .ai,v=>(ak.mk v.1 v.2.1 v.2.2.1 (ab.mk v.2.2.2.1 v.2.2.2.2.1 v.2.2.2.2.2.1) v.2.2.2.2.2.2.1 (ao.mk v.2.2.2.2.2.2.2.1 v.2.2.2.2.2.2.2.2.1) (ao.mk v.2.2.2.2.2.2.2.2.2.1 v.2.2.2.2.2.2.2.2.2.2.1) (ao.mk v.2.2.2.2.2.2.2.2.2.2.2.1 v.2.2.2.2.2.2.2.2.2.2.2.2.1) v.2.2.2.2.2.2.2.2.2.2.2.2.2.1 v.2.2.2.2.2.2.2.2.2.2.2.2.2.2.1)
 | .af,v=>(aQ.mk v.1 v.2.1 (ax.mk v.2.2.1 v.2.2.2.1 (ab.mk v.2.2.2.2.1 v.2.2.2.2.2.1 v.2.2.2.2.2.2.1) v.2.2.2.2.2.2.2.1 v.2.2.2.2.2.2.2.2.1) (ak.mk v.2.2.2.2.2.2.2.2.2.1 v.2.2.2.2.2.2.2.2.2.2.1 v.2.2.2.2.2.2.2.2.2.2.2.1 (ab.mk v.2.2.2.2.2.2.2.2.2.2.2.2.1 v.2.2.2.2.2.2.2.2.2.2.2.2.2.1 v.2.2.2.2.2.2.2.2.2.2.2.2.2.2.1) v.2.2.2.2.2.2.2.2.2.2.2.2.2.2.2.1 (ao.mk v.2.2.2.2.2.2.2.2.2.2.2.2.2.2.2.2.1 v.2.2.2.2.2.2.2.2.2.2.2.2.2.2.2.2.2.1) (ao.mk v.2.2.2.2.2.2.2.2.2.2.2.2.2.2.2.2.2.2.1 v.2.2.2.2.2.2.2.2.2.2.2.2.2.2.2.2.2.2.2.1) (ao.mk v.2.2.2.2.2.2.2.2.2.2.2.2.2.2.2.2.2.2.2.2.1 v.2.2.2.2.2.2.2.2.2.2.2.2.2.2.2.2.2.2.2.2.2.1) v.2.2.2.2.2.2.2.2.2.2.2.2.2.2.2.2.2.2.2.2.2.2.1 v.2.2.2.2.2.2.2.2.2.2.2.2.2.2.2.2.2.2.2.2.2.2.2.1))
 | .Step,v=>(aI.mk v.1 v.2.1 v.2.2.1 v.2.2.2.1 v.2.2.2.2.1 v.2.2.2.2.2.1 (ab.mk v.2.2.2.2.2.2.1 v.2.2.2.2.2.2.2.1 v.2.2.2.2.2.2.2.2.1) (aQ.mk v.2.2.2.2.2.2.2.2.2.1 v.2.2.2.2.2.2.2.2.2.2.1 (ax.mk v.2.2.2.2.2.2.2.2.2.2.2.1 v.2.2.2.2.2.2.2.2.2.2.2.2.1 (ab.mk v.2.2.2.2.2.2.2.2.2.2.2.2.2.1 v.2.2.2.2.2.2.2.2.2.2.2.2.2.2.1 v.2.2.2.2.2.2.2.2.2.2.2.2.2.2.2.1) v.2.2.2.2.2.2.2.2.2.2.2.2.2.2.2.2.1 v.2.2.2.2.2.2.2.2.2.2.2.2.2.2.2.2.2.1) (ak.mk v.2.2.2.2.2.2.2.2.2.2.2.2.2.2.2.2.2.2.1 v.2.2.2.2.2.2.2.2.2.2.2.2.2.2.2.2.2.2.2.1 v.2.2.2.2.2.2.2.2.2.2.2.2.2.2.2.2.2.2.2.2.1 (ab.mk v.2.2.2.2.2.2.2.2.2.2.2.2.2.2.2.2.2.2.2.2.2.1 v.2.2.2.2.2.2.2.2.2.2.2.2.2.2.2.2.2.2.2.2.2.2.1 v.2.2.2.2.2.2.2.2.2.2.2.2.2.2.2.2.2.2.2.2.2.2.2.1) v.2.2.2.2.2.2.2.2.2.2.2.2.2.2.2.2.2.2.2.2.2.2.2.2.1 (ao.mk v.2.2.2.2.2.2.2.2.2.2.2.2.2.2.2.2.2.2.2.2.2.2.2.2.2.1 v.2.2.2.2.2.2.2.2.2.2.2.2.2.2.2.2.2.2.2.2.2.2.2.2.2.2.1) (ao.mk v.2.2.2.2.2.2.2.2.2.2.2.2.2.2.2.2.2.2.2.2.2.2.2.2.2.2.2.1 v.2.2.2.2.2.2.2.2.2.2.2.2.2.2.2.2.2.2.2.2.2.2.2.2.2.2.2.2.1) (ao.mk v.2.2.2.2.2.2.2.2.2.2.2.2.2.2.2.2.2.2.2.2.2.2.2.2.2.2.2.2.2.1 v.2.2.2.2.2.2.2.2.2.2.2.2.2.2.2.2.2.2.2.2.2.2.2.2.2.2.2.2.2.2.1) v.2.2.2.2.2.2.2.2.2.2.2.2.2.2.2.2.2.2.2.2.2.2.2.2.2.2.2.2.2.2.2.1 v.2.2.2.2.2.2.2.2.2.2.2.2.2.2.2.2.2.2.2.2.2.2.2.2.2.2.2.2.2.2.2.2.1)) v.2.2.2.2.2.2.2.2.2.2.2.2.2.2.2.2.2.2.2.2.2.2.2.2.2.2.2.2.2.2.2.2.2.1)
 | .pA,v=>(aU.mk v.1 (ab.mk v.2.1 v.2.2.1 v.2.2.2.1))
 | .Config,v=>(bQ.mk v.1)
 | .aw,v=>(aA.mk v.1 v.2.1 v.2.2.1 v.2.2.2.1 (ab.mk v.2.2.2.2.1 v.2.2.2.2.2.1 v.2.2.2.2.2.2.1) v.2.2.2.2.2.2.2.1 v.2.2.2.2.2.2.2.2.1 v.2.2.2.2.2.2.2.2.2.1 v.2.2.2.2.2.2.2.2.2.2.1 v.2.2.2.2.2.2.2.2.2.2.2.1)
 | .au,v=>(ah.mk v.1 v.2.1 v.2.2.1 (ab.mk v.2.2.2.1 v.2.2.2.2.1 v.2.2.2.2.2.1) v.2.2.2.2.2.2.1 (ao.mk v.2.2.2.2.2.2.2.1 v.2.2.2.2.2.2.2.2.1) (ao.mk v.2.2.2.2.2.2.2.2.2.1 v.2.2.2.2.2.2.2.2.2.2.1) (ao.mk v.2.2.2.2.2.2.2.2.2.2.2.1 v.2.2.2.2.2.2.2.2.2.2.2.2.1) (ao.mk v.2.2.2.2.2.2.2.2.2.2.2.2.2.1 v.2.2.2.2.2.2.2.2.2.2.2.2.2.2.1) v.2.2.2.2.2.2.2.2.2.2.2.2.2.2.2.1 v.2.2.2.2.2.2.2.2.2.2.2.2.2.2.2.2.1 v.2.2.2.2.2.2.2.2.2.2.2.2.2.2.2.2.2.1 v.2.2.2.2.2.2.2.2.2.2.2.2.2.2.2.2.2.2.1)
 | .Timer,v=>(dX.mk v.1 v.2.1)
 | .aE,v=>(bw.mk (aA.mk v.1 v.2.1 v.2.2.1 v.2.2.2.1 (ab.mk v.2.2.2.2.1 v.2.2.2.2.2.1 v.2.2.2.2.2.2.1) v.2.2.2.2.2.2.2.1 v.2.2.2.2.2.2.2.2.1 v.2.2.2.2.2.2.2.2.2.1 v.2.2.2.2.2.2.2.2.2.2.1 v.2.2.2.2.2.2.2.2.2.2.2.1) (ah.mk v.2.2.2.2.2.2.2.2.2.2.2.2.1 v.2.2.2.2.2.2.2.2.2.2.2.2.2.1 v.2.2.2.2.2.2.2.2.2.2.2.2.2.2.1 (ab.mk v.2.2.2.2.2.2.2.2.2.2.2.2.2.2.2.1 v.2.2.2.2.2.2.2.2.2.2.2.2.2.2.2.2.1 v.2.2.2.2.2.2.2.2.2.2.2.2.2.2.2.2.2.1) v.2.2.2.2.2.2.2.2.2.2.2.2.2.2.2.2.2.2.1 (ao.mk v.2.2.2.2.2.2.2.2.2.2.2.2.2.2.2.2.2.2.2.1 v.2.2.2.2.2.2.2.2.2.2.2.2.2.2.2.2.2.2.2.2.1) (ao.mk v.2.2.2.2.2.2.2.2.2.2.2.2.2.2.2.2.2.2.2.2.2.1 v.2.2.2.2.2.2.2.2.2.2.2.2.2.2.2.2.2.2.2.2.2.2.1) (ao.mk v.2.2.2.2.2.2.2.2.2.2.2.2.2.2.2.2.2.2.2.2.2.2.2.1 v.2.2.2.2.2.2.2.2.2.2.2.2.2.2.2.2.2.2.2.2.2.2.2.2.1) (ao.mk v.2.2.2.2.2.2.2.2.2.2.2.2.2.2.2.2.2.2.2.2.2.2.2.2.2.1 v.2.2.2.2.2.2.2.2.2.2.2.2.2.2.2.2.2.2.2.2.2.2.2.2.2.2.1) v.2.2.2.2.2.2.2.2.2.2.2.2.2.2.2.2.2.2.2.2.2.2.2.2.2.2.2.1 v.2.2.2.2.2.2.2.2.2.2.2.2.2.2.2.2.2.2.2.2.2.2.2.2.2.2.2.2.1 v.2.2.2.2.2.2.2.2.2.2.2.2.2.2.2.2.2.2.2.2.2.2.2.2.2.2.2.2.2.1 v.2.2.2.2.2.2.2.2.2.2.2.2.2.2.2.2.2.2.2.2.2.2.2.2.2.2.2.2.2.2.1) (dX.mk v.2.2.2.2.2.2.2.2.2.2.2.2.2.2.2.2.2.2.2.2.2.2.2.2.2.2.2.2.2.2.2.1 v.2.2.2.2.2.2.2.2.2.2.2.2.2.2.2.2.2.2.2.2.2.2.2.2.2.2.2.2.2.2.2.2.1) v.2.2.2.2.2.2.2.2.2.2.2.2.2.2.2.2.2.2.2.2.2.2.2.2.2.2.2.2.2.2.2.2.2.1 v.2.2.2.2.2.2.2.2.2.2.2.2.2.2.2.2.2.2.2.2.2.2.2.2.2.2.2.2.2.2.2.2.2.2.1 v.2.2.2.2.2.2.2.2.2.2.2.2.2.2.2.2.2.2.2.2.2.2.2.2.2.2.2.2.2.2.2.2.2.2.2.1 v.2.2.2.2.2.2.2.2.2.2.2.2.2.2.2.2.2.2.2.2.2.2.2.2.2.2.2.2.2.2.2.2.2.2.2.2.1)
 | .hU,v=>(ay.mk v.1 v.2.1 (ab.mk v.2.2.1 v.2.2.2.1 v.2.2.2.2.1) v.2.2.2.2.2.1)
 | .np,v=>(bD.mk v.1 v.2.1 v.2.2.1 v.2.2.2.1 (aQ.mk v.2.2.2.2.1 v.2.2.2.2.2.1 (ax.mk v.2.2.2.2.2.2.1 v.2.2.2.2.2.2.2.1 (ab.mk v.2.2.2.2.2.2.2.2.1 v.2.2.2.2.2.2.2.2.2.1 v.2.2.2.2.2.2.2.2.2.2.1) v.2.2.2.2.2.2.2.2.2.2.2.1 v.2.2.2.2.2.2.2.2.2.2.2.2.1) (ak.mk v.2.2.2.2.2.2.2.2.2.2.2.2.2.1 v.2.2.2.2.2.2.2.2.2.2.2.2.2.2.1 v.2.2.2.2.2.2.2.2.2.2.2.2.2.2.2.1 (ab.mk v.2.2.2.2.2.2.2.2.2.2.2.2.2.2.2.2.1 v.2.2.2.2.2.2.2.2.2.2.2.2.2.2.2.2.2.1 v.2.2.2.2.2.2.2.2.2.2.2.2.2.2.2.2.2.2.1) v.2.2.2.2.2.2.2.2.2.2.2.2.2.2.2.2.2.2.2.1 (ao.mk v.2.2.2.2.2.2.2.2.2.2.2.2.2.2.2.2.2.2.2.2.1 v.2.2.2.2.2.2.2.2.2.2.2.2.2.2.2.2.2.2.2.2.2.1) (ao.mk v.2.2.2.2.2.2.2.2.2.2.2.2.2.2.2.2.2.2.2.2.2.2.1 v.2.2.2.2.2.2.2.2.2.2.2.2.2.2.2.2.2.2.2.2.2.2.2.1) (ao.mk v.2.2.2.2.2.2.2.2.2.2.2.2.2.2.2.2.2.2.2.2.2.2.2.2.1 v.2.2.2.2.2.2.2.2.2.2.2.2.2.2.2.2.2.2.2.2.2.2.2.2.2.1) v.2.2.2.2.2.2.2.2.2.2.2.2.2.2.2.2.2.2.2.2.2.2.2.2.2.2.1 v.2.2.2.2.2.2.2.2.2.2.2.2.2.2.2.2.2.2.2.2.2.2.2.2.2.2.2.1)))
 | .pP,v=>(aY.mk v.1 v.2.1 v.2.2.1 v.2.2.2.1)
 | .World,v=>(aZ.mk v.1 v.2.1 v.2.2.1 (aY.mk v.2.2.2.1 v.2.2.2.2.1 v.2.2.2.2.2.1 v.2.2.2.2.2.2.1) v.2.2.2.2.2.2.2.1)
 | .Src,v=>(cr.mk v.1 v.2.1)
 | .dC,v=>(bl.mk v.1 v.2.1)
 | .gg,v=>(aK.mk v.1 v.2.1 v.2.2.1)
 | .Claim,v=>(jN.mk v.1 v.2.1)
 | .Message,v=>(gw.mk v.1 v.2.1 (ab.mk v.2.2.1 v.2.2.2.1 v.2.2.2.2.1) v.2.2.2.2.2.1 v.2.2.2.2.2.2.1)
 | .lN,v=>(nN.mk (ao.mk v.1 v.2.1) (ao.mk v.2.2.1 v.2.2.2.1))
 | .pR,v=>(tF.mk v.1 v.2.1)
 | .zo,v=>(kT.mk v.1 v.2.1)
mutual
def eo:ab->List PV
 |⟨a0,a1,a2⟩=>[.int .i64 a0,.sl (a1.map (fun x=>[.int .i64 x])),.sl (ui a2)]
def ui:List ab->List (List PV)
 |[]=>[]
 |x::l=>eo x::ui l
end
theorem AW:∀(l:List ab),ui l=l.map eo
 |[]=>by rw[ui];rfl
 |x::l=>by rw[ui,AW l];rfl
def vK(v:ax):List PV:=[.int .i64 v.aq,.int .i64 v.aO,.int .i64 v.aa.aM,.sl (v.aa.aH.map (fun x=>[.int .i64 x])),.sl (v.aa.aL.map eo),.sl (v.cx.map (fun x=>[.str x])),.sl (v.bo.map (fun x=>[.str x]))]
def SV(v:ao):List PV:=[.int .i64 v.an,.str v.Value]
def yx(v:ak):List PV:=[.int .i64 v.aq,.int .i64 v.aE,.int .i64 v.aO,.int .i64 v.aa.aM,.sl (v.aa.aH.map (fun x=>[.int .i64 x])),.sl (v.aa.aL.map eo),.int .i64 v.az,.int .i64 v.aj.an,.str v.aj.Value,.int .i64 v.av.an,.str v.av.Value,.int .i64 v.aJ.an,.str v.aJ.Value,.int .i64 v.bf,.int .i64 v.bM]
def SS(v:aQ):List PV:=[.int .i64 v.az,.int .i64 v.aE,.int .i64 v.al.aq,.int .i64 v.al.aO,.int .i64 v.al.aa.aM,.sl (v.al.aa.aH.map (fun x=>[.int .i64 x])),.sl (v.al.aa.aL.map eo),.sl (v.al.cx.map (fun x=>[.str x])),.sl (v.al.bo.map (fun x=>[.str x])),.int .i64 v.ai.aq,.int .i64 v.ai.aE,.int .i64 v.ai.aO,.int .i64 v.ai.aa.aM,.sl (v.ai.aa.aH.map (fun x=>[.int .i64 x])),.sl (v.ai.aa.aL.map eo),.int .i64 v.ai.az,.int .i64 v.ai.aj.an,.str v.ai.aj.Value,.int .i64 v.ai.av.an,.str v.ai.av.Value,.int .i64 v.ai.aJ.an,.str v.ai.aJ.Value,.int .i64 v.ai.bf,.int .i64 v.ai.bM]
def jS(v:aI):List PV:=[.int .i64 v.az,.int .i64 v.aq,.int .i64 v.To,.int .i64 v.aE,.int .i64 v.Count,.str v.Value,.int .i64 v.aa.aM,.sl (v.aa.aH.map (fun x=>[.int .i64 x])),.sl (v.aa.aL.map eo),.int .i64 v.af.az,.int .i64 v.af.aE,.int .i64 v.af.al.aq,.int .i64 v.af.al.aO,.int .i64 v.af.al.aa.aM,.sl (v.af.al.aa.aH.map (fun x=>[.int .i64 x])),.sl (v.af.al.aa.aL.map eo),.sl (v.af.al.cx.map (fun x=>[.str x])),.sl (v.af.al.bo.map (fun x=>[.str x])),.int .i64 v.af.ai.aq,.int .i64 v.af.ai.aE,.int .i64 v.af.ai.aO,.int .i64 v.af.ai.aa.aM,.sl (v.af.ai.aa.aH.map (fun x=>[.int .i64 x])),.sl (v.af.ai.aa.aL.map eo),.int .i64 v.af.ai.az,.int .i64 v.af.ai.aj.an,.str v.af.ai.aj.Value,.int .i64 v.af.ai.av.an,.str v.af.ai.av.Value,.int .i64 v.af.ai.aJ.an,.str v.af.ai.aJ.Value,.int .i64 v.af.ai.bf,.int .i64 v.af.ai.bM,.sl (v.bx.map (fun x=>[.int .i64 x]))]
def HR(v:aU):List PV:=[.bool v.dD,.int .i64 v.aa.aM,.sl (v.aa.aH.map (fun x=>[.int .i64 x])),.sl (v.aa.aL.map eo)]
def SU(v:bQ):List PV:=[.sl (v.bq.map HR)]
def LJ(v:aA):List PV:=[.int .i64 v.aq,.int .i64 v.aE,.int .i64 v.Round,.int .i64 v.aO,.int .i64 v.aa.aM,.sl (v.aa.aH.map (fun x=>[.int .i64 x])),.sl (v.aa.aL.map eo),.str v.Own,.sl (v.cx.map (fun x=>[.str x])),.sl (v.bo.map (fun x=>[.str x])),.sl (v.dG.map (fun x=>[.str x])),.sl (v.aF.map vK)]
def Pu(v:ah):List PV:=[.int .i64 v.aq,.int .i64 v.aE,.int .i64 v.aO,.int .i64 v.aa.aM,.sl (v.aa.aH.map (fun x=>[.int .i64 x])),.sl (v.aa.aL.map eo),.int .i64 v.ba,.int .i64 v.aj.an,.str v.aj.Value,.int .i64 v.av.an,.str v.av.Value,.int .i64 v.aJ.an,.str v.aJ.Value,.int .i64 v.aC.an,.str v.aC.Value,.int .i64 v.bf,.int .i64 v.bM,.str v.bU,.sl (v.aF.map yx)]
def U9(v:dX):List PV:=[.int .i64 v.an,.int .i64 v.nC]
def M5(v:bw):List PV:=[.int .i64 v.aw.aq,.int .i64 v.aw.aE,.int .i64 v.aw.Round,.int .i64 v.aw.aO,.int .i64 v.aw.aa.aM,.sl (v.aw.aa.aH.map (fun x=>[.int .i64 x])),.sl (v.aw.aa.aL.map eo),.str v.aw.Own,.sl (v.aw.cx.map (fun x=>[.str x])),.sl (v.aw.bo.map (fun x=>[.str x])),.sl (v.aw.dG.map (fun x=>[.str x])),.sl (v.aw.aF.map vK),.int .i64 v.au.aq,.int .i64 v.au.aE,.int .i64 v.au.aO,.int .i64 v.au.aa.aM,.sl (v.au.aa.aH.map (fun x=>[.int .i64 x])),.sl (v.au.aa.aL.map eo),.int .i64 v.au.ba,.int .i64 v.au.aj.an,.str v.au.aj.Value,.int .i64 v.au.av.an,.str v.au.av.Value,.int .i64 v.au.aJ.an,.str v.au.aJ.Value,.int .i64 v.au.aC.an,.str v.au.aC.Value,.int .i64 v.au.bf,.int .i64 v.au.bM,.str v.au.bU,.sl (v.au.aF.map yx),.int .i64 v.Timer.an,.int .i64 v.Timer.nC,.int .i64 v.Round,.int .i64 v.Next,.bool v.AJ,.str v.Value]
def zH(v:ay):List PV:=[.int .i64 v.aq,.bool v.kU,.int .i64 v.aa.aM,.sl (v.aa.aH.map (fun x=>[.int .i64 x])),.sl (v.aa.aL.map eo),.sl (v.bE.map M5)]
def BS(v:bD):List PV:=[.int .i64 v.nC,.int .i64 v.o6,.int .i64 v.To,.int .i64 v.Number,.int .i64 v.af.az,.int .i64 v.af.aE,.int .i64 v.af.al.aq,.int .i64 v.af.al.aO,.int .i64 v.af.al.aa.aM,.sl (v.af.al.aa.aH.map (fun x=>[.int .i64 x])),.sl (v.af.al.aa.aL.map eo),.sl (v.af.al.cx.map (fun x=>[.str x])),.sl (v.af.al.bo.map (fun x=>[.str x])),.int .i64 v.af.ai.aq,.int .i64 v.af.ai.aE,.int .i64 v.af.ai.aO,.int .i64 v.af.ai.aa.aM,.sl (v.af.ai.aa.aH.map (fun x=>[.int .i64 x])),.sl (v.af.ai.aa.aL.map eo),.int .i64 v.af.ai.az,.int .i64 v.af.ai.aj.an,.str v.af.ai.aj.Value,.int .i64 v.af.ai.av.an,.str v.af.ai.av.Value,.int .i64 v.af.ai.aJ.an,.str v.af.ai.aJ.Value,.int .i64 v.af.ai.bf,.int .i64 v.af.ai.bM]
def Pr(v:aY):List PV:=[.sl (v.bh.map BS),.int .i64 v.Next,.sl (v.bx.map (fun x=>[.int .i64 x])),.sl (v.eO.map (fun x=>[.int .i64 x]))]
def U8(v:aZ):List PV:=[.int .i64 v.Time,.sl (v.aH.map zH),.int .i64 v.LA,.sl (v.Net.bh.map BS),.int .i64 v.Net.Next,.sl (v.Net.bx.map (fun x=>[.int .i64 x])),.sl (v.Net.eO.map (fun x=>[.int .i64 x])),.sl (v.cM.map (fun x=>[.sl (x.map eo)]))]
def Zw(v:cr):List PV:=[.sl (v.L.map (fun x=>[.int .i64 x])),.int .i64 v.At]
def BT(v:bl):List PV:=[.sl (v.l.map (fun x=>[.str x])),.bool v.bad]
def Dx(v:aK):List PV:=[.str v.text,.str v.token,.int .i64 v.at_]
def Dy(v:jN):List PV:=[.int .i64 v.uP,.int .i64 v.Value]
def Pt(v:gw):List PV:=[.int .i64 v.aq,.int .i64 v.aO,.int .i64 v.aa.aM,.sl (v.aa.aH.map (fun x=>[.int .i64 x])),.sl (v.aa.aL.map eo),.sl (v.cx.map Dy),.sl (v.bo.map Dy)]
def Jy(v:nN):List PV:=[.int .i64 v.c0.an,.str v.c0.Value,.int .i64 v.c1.an,.str v.c1.Value]
def Pv(v:tF):List PV:=[.int .i64 v.c0,.int .i64 v.c1]
def Xe(v:kT):List PV:=[.int .i64 v.Ws,.int .i64 v.Wv]
def kW.pv:(n:kW)->n.den->List PV
 | .aa,v=>eo v
 | .al,v=>vK v
 | .aj,v=>SV v
 | .ai,v=>yx v
 | .af,v=>SS v
 | .Step,v=>jS v
 | .pA,v=>HR v
 | .Config,v=>SU v
 | .aw,v=>LJ v
 | .au,v=>Pu v
 | .Timer,v=>U9 v
 | .aE,v=>M5 v
 | .hU,v=>zH v
 | .np,v=>BS v
 | .pP,v=>Pr v
 | .World,v=>U8 v
 | .Src,v=>Zw v
 | .dC,v=>BT v
 | .gg,v=>Dx v
 | .Claim,v=>Dy v
 | .Message,v=>Pt v
 | .lN,v=>Jy v
 | .pR,v=>Pv v
 | .zo,v=>Xe v
def Ty.isAgg:Ty->Bool
 | .st _=>true
 |_=>false
def Yr(t:Ty)(cs:List PV):PV:=match t.isAgg with|true=> .agg cs|false=>cs.headD .any
def Ty.pv:(t:Ty)->t.den->List PV
 | .i k,n=>[.int k n]
 | .dyn,(v:cN)=>[.gA (cond v.xB UB UC) (cond v.xB (.str v.s) (.int .i64 v.n))]
 | .err,(b:Bool)=>[.iJ b]
 | .bool,b=>[.bool b]
 | .str,s=>[.str s]
 | .sl t,(xs:List t.den)=>[.sl (xs.map (Ty.pv t))]
 | .mp a b,(xs:List (a.den×b.den))=>[.iu (xs.map fun p=>Yr a (Ty.pv a p.1)) (xs.map fun p=>Yr b (Ty.pv b p.2))]
 | .st n,v=>n.pv v
def uv:(ls:List Ty)->zn ls->List PV
 |[],_=>[]
 |t::l,v=>t.pv v.1++uv l v.2
theorem kW.HQ:∀(n:kW) (v:n.den),n.pv v=uv n.leaves (n.toL v)
 | .aa,v=>by cases v;simp only[kW.pv,eo,AW];rfl
 | .al,v=>rfl
 | .aj,v=>rfl
 | .ai,v=>rfl
 | .af,v=>rfl
 | .Step,v=>rfl
 | .pA,v=>rfl
 | .Config,v=>rfl
 | .aw,v=>rfl
 | .au,v=>rfl
 | .Timer,v=>rfl
 | .aE,v=>rfl
 | .hU,v=>rfl
 | .np,v=>rfl
 | .pP,v=>rfl
 | .World,v=>rfl
 | .Src,v=>rfl
 | .dC,v=>rfl
 | .gg,v=>rfl
 | .Claim,v=>rfl
 | .Message,v=>rfl
 | .lN,v=>rfl
 | .pR,v=>rfl
 | .zo,v=>rfl
def Ty.leaf:Ty->Bool
 | .st _=>false
 |_=>true
theorem kW.Fc:∀(n:kW),n.leaves.all Ty.leaf=true
 | .aa=>rfl
 | .al=>rfl
 | .aj=>rfl
 | .ai=>rfl
 | .af=>rfl
 | .Step=>rfl
 | .pA=>rfl
 | .Config=>rfl
 | .aw=>rfl
 | .au=>rfl
 | .Timer=>rfl
 | .aE=>rfl
 | .hU=>rfl
 | .np=>rfl
 | .pP=>rfl
 | .World=>rfl
 | .Src=>rfl
 | .dC=>rfl
 | .gg=>rfl
 | .Claim=>rfl
 | .Message=>rfl
 | .lN=>rfl
 | .pR=>rfl
 | .zo=>rfl
theorem kW.ac4:∀(n:kW) (v:zn n.leaves),n.toL (n.YA v)=v
 | .aa,v=>rfl
 | .al,v=>rfl
 | .aj,v=>rfl
 | .ai,v=>rfl
 | .af,v=>rfl
 | .Step,v=>rfl
 | .pA,v=>rfl
 | .Config,v=>rfl
 | .aw,v=>rfl
 | .au,v=>rfl
 | .Timer,v=>rfl
 | .aE,v=>rfl
 | .hU,v=>rfl
 | .np,v=>rfl
 | .pP,v=>rfl
 | .World,v=>rfl
 | .Src,v=>rfl
 | .dC,v=>rfl
 | .gg,v=>rfl
 | .Claim,v=>rfl
 | .Message,v=>rfl
 | .lN,v=>rfl
 | .pR,v=>rfl
 | .zo,v=>rfl
def Ty.S9:Ty->Bool
 | .sl _=>false
 | .mp _ _=>false
 |_=>true
@[reducible] def U:TU where
 Ty:=Ty
 RY:=Ty.RY
 den:=Ty.den
 pv:=Ty.pv
 size:=fun t=>match t with| .st n=>n.leaves.length|_=>1
 agg:=Ty.isAgg
 plain:=fun t=>match t with| .st n=>n.leaves.all Ty.S9|t=>t.S9
def xM:(t:Ty)->t.den->KV U
 | .i k,n=> .int k n
 | .dyn,(v:cN)=> .dyn UC UB v.xB v.n v.s
 | .err,(b:Bool)=> .iJ b
 | .bool,b=> .bool b
 | .str,s=> .str s
 | .sl t,(xs:List t.den)=> .sl t xs
 | .mp a b,(xs:List (a.den×b.den))=> .iu a b xs
 | .st _,_=> .any
def Fb:(ls:List Ty)->zn ls->List (KV U)
 |[],_=>[]
 |t::l,v=>xM t v.1::Fb l v.2
def acp:(t:Ty)->t.den->List (KV U)
 | .st n,v=>Fb n.leaves (n.toL v)
 | .i k,v=>[xM (.i k) v]
 | .dyn,v=>[xM .dyn v]
 | .err,v=>[xM .err v]
 | .bool,v=>[xM .bool v]
 | .str,v=>[xM .str v]
 | .sl t,v=>[xM (.sl t) v]
 | .mp a b,v=>[xM (.mp a b) v]
def XX:KV U->Option cN
 | .dyn Ti Ts b n s=>(match Nat.beq Ti UC&&Nat.beq Ts UB with|true=>some ⟨b,n,s⟩|false=>none)
 | .gA T (.int .i64 n)=>(match Nat.beq T UC with|true=>some ⟨false,n,⟨#[]⟩⟩|false=>none)
 | .gA T (.str s)=>(match Nat.beq T UB with|true=>some ⟨true,0,s⟩|false=>none)
 |_=>none
def XW:KV U->Option Bool
 | .iJ b=>some b
 |_=>none
theorem aax{lk:Lk U}{x:KV U}{v:cN}(h:XX x=some v):iq lk x (.gA (cond v.xB UB UC) (cond v.xB (.str v.s) (.int .i64 v.n))):=by
 unfold XX at h;split at h
 ·split at h
  ·rename_i hq;rw[Qm]at hq;have e1:=QF hq.1;have e2:=QF hq.2;injection h with h
   subst h e1 e2;exact .dyn _ _ _ _ _
  ·cases h
 ·split at h
  ·rename_i hq;have e1:=QF hq;injection h with h
   subst h e1;exact .gA _ _
  ·cases h
 ·split at h
  ·rename_i hq;have e1:=QF hq;injection h with h
   subst h e1;exact .gA _ _
  ·cases h
 ·cases h
theorem aaw{lk:Lk U}{x:KV U}{v:Bool}(h:XW x=some v):iq lk x (.iJ v):=by
 unfold XW at h;split at h
 ·injection h with h;subst h;exact .iJ _
 ·cases h
def rN(lk:Lk U):(t:Ty)->KV U->Option t.den
 | .i k,x=>XV k x
 | .dyn,x=>XX x
 | .err,x=>XW x
 | .bool,x=>Eo x
 | .str,x=>XT x
 | .sl t,x=>OH (U:=U) lk t x
 | .mp a b,x=>XU (U:=U) a b x
 | .st _,_=>none
def xc(lk:Lk U):(ls:List Ty)->List (KV U)->Option (zn ls)
 |[],cs=>match cs with|[]=>some ()|_=>none
 |t::l,cs=>match cs with
  |c::cs=>(match rN lk t c with
   |some v=>(match xc lk l cs with|some vs=>some (v,vs)|none=>none)
   |none=>none)
  |[]=>none
def Cn{α:Type}(f:KV U->Option α):List (KV U)->Option α
 |[x]=>f x
 |_=>none
def aeU:(t:Ty)->Lk U->List (KV U)->Option t.den
 | .st n,lk,cs=>(match xc lk n.leaves cs with|some v=>some (n.YA v)|none=>none)
 | .i k,lk,cs=>Cn (rN lk (.i k)) cs
 | .dyn,lk,cs=>Cn (rN lk .dyn) cs
 | .err,lk,cs=>Cn (rN lk .err) cs
 | .bool,lk,cs=>Cn (rN lk .bool) cs
 | .str,lk,cs=>Cn (rN lk .str) cs
 | .sl t,lk,cs=>Cn (rN lk (.sl t)) cs
 | .mp a b,lk,cs=>Cn (rN lk (.mp a b)) cs
theorem XA:∀(t:Ty) (v:t.den),t.leaf=true->[(xM t v).pv]=t.pv v
 | .i k,v,_=>rfl
 | .dyn,v,_=>rfl
 | .err,v,_=>rfl
 | .bool,v,_=>rfl
 | .str,v,_=>rfl
 | .sl t,v,_=>rfl
 | .mp a b,v,_=>rfl
 | .st _,_,h=>by cases h
theorem Ik:∀(ls:List Ty) (v:zn ls),ls.all Ty.leaf=true->(Fb ls v).map KV.pv=uv ls v
 |[],_,_=>rfl
 |t::l,v,h=>by
  rw[Qq69,Qm]at h;rw[Fb,uv,QD,Ik l v.2 h.2,<-XA t v.1 h.1];rfl
theorem na{lk:Lk U}:∀{t:Ty} {x:KV U} {v:t.den},rN lk t x=some v->gn lk [x] (t.pv v)
 | .i k,x,v,h=> .cons (aav h) .nil
 | .dyn,x,v,h=> .cons (aax h) .nil
 | .err,x,v,h=> .cons (aaw h) .nil
 | .bool,x,v,h=> .cons (aaz h) .nil
 | .str,x,v,h=> .cons (aas h) .nil
 | .sl t,x,v,h=> .cons (aau (U:=U) h) .nil
 | .mp a b,x,v,h=> .cons (aat (U:=U) h) .nil
 | .st _,_,_,h=>by cases h
theorem gn.cZ{lk:Lk U}{x:KV U}{ys:List PV}{xs:List (KV U)}{zs:List PV}(h:gn lk [x] ys)(k:gn lk xs zs):gn lk (x::xs) (ys++zs):=by
 cases h with
 |cons h1 h2=>cases h2 with|nil=>exact .cons h1 k
theorem Em{lk:Lk U}:∀{ls:List Ty} {cs:List (KV U)} {v:zn ls},xc lk ls cs=some v->gn lk cs (uv ls v)
 |[],[],_,_=> .nil
 |[],_::_,_,h=>by cases h
 |_::_,[],_,h=>by cases h
 |t::l,c::cs,v,h=>by
  rw[xc]at h;split at h
  ·rename_i v1 h1;split at h
   ·rename_i vs h2;injection h with h
    subst h;exact(na h1).cZ (Em h2)
   ·cases h
  ·cases h
theorem vY{α:Type}{f:KV U->Option α}{cs:List (KV U)}{v:α}(h:Cn f cs=some v):∃x,cs=[x]/\f x=some v:=by
 unfold Cn at h;split at h
 ·exact⟨_,rfl,h⟩
 ·cases h
theorem U7:∀(ls:List Ty) (v:zn ls),ls.all Ty.leaf=true->(uv ls v).length=ls.length
 |[],_,_=>rfl
 |t::l,v,h=>by
  rw[Qq69,Qm]at h
  have:(t.pv v.1).length=1:=by
   cases t with
   |st n=>cases h.1
   |_=>rfl
  rw[uv,QB,U7 l v.2 h.2,this,QE,Nat.add_comm]
theorem gO:∀(t:Ty) (v:t.den),t.leaf=true->∀y∈t.pv v,y.fp=true/\(t.S9=true->y.plain=true)
 | .i k,v,_,y,h=>by simp only[Ty.pv,Q4]at h;subst h;exact⟨rfl,fun _=>rfl⟩
 | .dyn,v,_,y,h=>by simp only[Ty.pv,Q4]at h;subst h;exact⟨rfl,fun _=>rfl⟩
 | .err,v,_,y,h=>by simp only[Ty.pv,Q4]at h;subst h;exact⟨rfl,fun _=>rfl⟩
 | .bool,v,_,y,h=>by simp only[Ty.pv,Q4]at h;subst h;exact⟨rfl,fun _=>rfl⟩
 | .str,v,_,y,h=>by simp only[Ty.pv,Q4]at h;subst h;exact⟨rfl,fun _=>rfl⟩
 | .sl t,v,_,y,h=>by simp only[Ty.pv,Q4]at h;subst h;exact⟨rfl,fun h=>by cases h⟩
 | .mp a b,v,_,y,h=>by simp only[Ty.pv,Q4]at h;subst h;exact⟨rfl,fun h=>by cases h⟩
 | .st _,_,h,_,_=>by cases h
theorem Ao:∀(ls:List Ty) (v:zn ls),ls.all Ty.leaf=true->∀y∈uv ls v,y.fp=true/\(ls.all Ty.S9=true->y.plain=true)
 |[],_,_,y,h=>by cases h
 |t::l,v,h,y,hy=>by
  rw[Qq69,Qm]at h;rw[uv,Qz]at hy;rcases hy with hy|hy
  ·obtain⟨h1,h2⟩:=gO t v.1 h.1 y hy;exact⟨h1,fun hp=>by rw[Qq69,Qm]at hp;exact h2 hp.1⟩
  ·obtain⟨h1,h2⟩:=Ao l v.2 h.2 y hy;exact⟨h1,fun hp=>by rw[Qq69,Qm]at hp;exact h2 hp.2⟩
def NF:kW->Option (IntKind×IntKind)
 | .Timer=>some (.i64,.i64)
 | .Claim=>some (.i64,.i64)
 | .pR=>some (.i64,.i64)
 | .zo=>some (.i64,.i64)
 |_=>none
theorem JK:∀(n:kW) (k l:IntKind),NF n=some (k,l)->∀v,∃a b,acp (.st n) v=[.int k a,.int l b]
 | .Timer,_,_,h=>by injection h with h;injection h with h1 h2;subst h1 h2;exact fun v=>⟨_,_,rfl⟩
 | .Claim,_,_,h=>by injection h with h;injection h with h1 h2;subst h1 h2;exact fun v=>⟨_,_,rfl⟩
 | .pR,_,_,h=>by injection h with h;injection h with h1 h2;subst h1 h2;exact fun v=>⟨_,_,rfl⟩
 | .zo,_,_,h=>by injection h with h;injection h with h1 h2;subst h1 h2;exact fun v=>⟨_,_,rfl⟩
 | .aa,_,_,h=>by cases h
 | .al,_,_,h=>by cases h
 | .aj,_,_,h=>by cases h
 | .ai,_,_,h=>by cases h
 | .af,_,_,h=>by cases h
 | .Step,_,_,h=>by cases h
 | .pA,_,_,h=>by cases h
 | .Config,_,_,h=>by cases h
 | .aw,_,_,h=>by cases h
 | .au,_,_,h=>by cases h
 | .aE,_,_,h=>by cases h
 | .hU,_,_,h=>by cases h
 | .np,_,_,h=>by cases h
 | .pP,_,_,h=>by cases h
 | .World,_,_,h=>by cases h
 | .Src,_,_,h=>by cases h
 | .dC,_,_,h=>by cases h
 | .gg,_,_,h=>by cases h
 | .Message,_,_,h=>by cases h
 | .lN,_,_,h=>by cases h
def ac3:List (Nat×Ty):=[(3,(Ty.i .i64)),(4,Ty.bool),(5,(Ty.i .u8)),(9,Ty.str),(20,Ty.dyn),(39,(Ty.sl (Ty.st .aa))),(41,(Ty.st .aa)),(43,(Ty.st .al)),(45,(Ty.st .aj)),(47,(Ty.st .ai)),(49,(Ty.st .af)),(51,(Ty.st .Step)),(97,(Ty.st .pA)),(105,(Ty.st .hU)),(155,(Ty.st .aE)),(180,(Ty.st .np)),(198,(Ty.i .u64)),(314,(Ty.st .Message)),(356,(Ty.st .Claim))]
def UD(n:Nat):List (Nat×Ty)->Option Ty
 |[]=>none
 |(k,t)::l=>(match Nat.beq k n with|true=>some t|false=>UD n l)
@[reducible] def K:TK U where
 fD:=acp
 dec:=aeU
 Jn:=fun n=>UD n ac3
 mZ:=fun t v=>by
  cases t with
  |st n=>exact(Ik _ _ n.Fc).trans (n.HQ v).symm
  |_=>rfl
 kH:=fun t lk cs v h=>by
  cases t with
  |st n=>
   change (match xc lk n.leaves cs with|some v=>some (n.YA v)|none=>none)=some v at h
   split at h
   ·rename_i u hu;injection h with h
    subst h;have:=Em hu
    change gn lk cs (n.pv (n.YA u))
    rw[n.HQ,n.ac4];exact this
   ·cases h
  |i k=>obtain⟨x,rfl,hx⟩:=vY h;exact na hx
  |dyn=>obtain⟨x,rfl,hx⟩:=vY h;exact na hx
  |err=>obtain⟨x,rfl,hx⟩:=vY h;exact na hx
  |bool=>obtain⟨x,rfl,hx⟩:=vY h;exact na hx
  |str=>obtain⟨x,rfl,hx⟩:=vY h;exact na hx
  |sl t=>obtain⟨x,rfl,hx⟩:=vY h;exact na hx
  |mp a b=>obtain⟨x,rfl,hx⟩:=vY h;exact na hx
 len:=fun t v=>by
  cases t with
  |st n=>exact(congrArg List.length (n.HQ v)).trans (U7 _ _ n.Fc)
  |_=>rfl
 fp:=fun t v y hy=>by
  cases t with
  |st n=>exact(Ao _ (n.toL v) n.Fc y (Eq.mp (congrArg (y∈·) (n.HQ v)) hy)).1
  |i k=>exact(gO (.i k) v rfl y hy).1
  |dyn=>exact(gO .dyn v rfl y hy).1
  |err=>exact(gO .err v rfl y hy).1
  |bool=>exact(gO .bool v rfl y hy).1
  |str=>exact(gO .str v rfl y hy).1
  |sl t=>exact(gO (.sl t) v rfl y hy).1
  |mp a b=>exact(gO (.mp a b) v rfl y hy).1
 one:=fun t h=>by
  cases t with
  |st n=>cases h
  |_=>rfl
 plain:=fun t h v y hy=>by
  cases t with
  |st n=>exact(Ao _ (n.toL v) n.Fc y (Eq.mp (congrArg (y∈·) (n.HQ v)) hy)).2 h
  |i k=>exact(gO (.i k) v rfl y hy).2 rfl
  |dyn=>exact(gO .dyn v rfl y hy).2 rfl
  |err=>exact(gO .err v rfl y hy).2 rfl
  |bool=>exact(gO .bool v rfl y hy).2 rfl
  |str=>exact(gO .str v rfl y hy).2 rfl
  |sl t=>cases h
  |mp a b=>cases h
 NF:=fun t=>match t with| .st n=>NF n|_=>none
 JK:=fun t k l h=>by
  cases t with
  |st n=>exact⟨rfl,JK n k l h⟩
  |_=>cases h
end
section
open Go.Proofs Go.RowKit Go.Sort
theorem tC(hd:mm=false){w w':World}(h:Below w.heap.size w w'):Fr none w w':=
 ⟨h.os,h.tape,h.output,h.size,fun b hb _=>h.block b hb,fun e=>by rw[hd]at e;cases e⟩
theorem Bu{w:World}{M:Nat->Prop}{G:Gh}{x:PV}{vs:List Value}(h:aR w M G [x] vs):∃v,vs=[v]/\aW w M G x v:=by
 obtain⟨v,us,rfl,h1,h2⟩:=h.cons_inv;obtain rfl:=h2.tQ;exact⟨v,rfl,h1⟩
theorem Bt{w:World}{M:Nat->Prop}{G:Gh}{x y:PV}{vs:List Value}(h:aR w M G [x,y] vs):∃u v,vs=[u,v]/\aW w M G x u/\aW w M G y v:=by
 obtain⟨v,us,rfl,h1,h2⟩:=h.cons_inv;obtain⟨u,rfl,h3⟩:=Bu h2;exact⟨v,u,rfl,h1,h3⟩
theorem dH{w:World}{M:Nat->Prop}{G:Gh}{s:ByteArray}{v:Value}(h:aW w M G (.str s) v):v= .string s:=by cases h;rfl
theorem eC{w:World}{M:Nat->Prop}{G:Gh}{k:IntKind}{n:Int}{v:Value}(h:aW w M G (.int k n) v):v= .int k n:=by cases h;rfl
theorem xf{P:Program}{f:FuncId}{args:List PV}{r:PV}(h:∀(w:World) (X:Nat->Prop) (vs:List Value),GI w->aR w X dm args vs->Calls P f vs.toArray w fun e w'=>(∃v,e= .returned v/\∀M,aW w' M dm r v)/\Fr none w w'):
  Bw P f false [] args r []:=fun w X hX rb T rvs vs _ hv=>by
 refine(h w _ vs hX.gi hv).mono ?_;rintro e w' ⟨⟨v,rfl,hr⟩,hf⟩;exact⟨v,[],rfl,hr _,fun e=>(by cases e),hf⟩
open Classical in
 def zU(n:Int):Option ByteArray:=if -9223372036854775808<=n/\n<=9223372036854775807 then some ⟨(Lib.itoa n).toArray⟩else none
theorem XE{P:Program}{f:FuncId}{n:Int}{r:ByteArray}(hd:mm=false)(hT:∀w,GI w->Lib.TabIs P w "internal/strconv.uint64pow10" .u64 Lib.pow10Tab)
  (h:∀(n:Int) (_: -9223372036854775808<=n) (_:n<=9223372036854775807) (w:World) (_:Lib.TabIs P w "internal/strconv.uint64pow10" .u64 Lib.pow10Tab),Calls P f #[.int .i64 n] w fun e w'=>e= .returned (.string ⟨(Lib.itoa n).toArray⟩)/\∃k os,w'=grow (w.drewN k) os)
  (hr:zU n=some r):Bw P f false [] [.int .i64 n] (.str r) []:=by
 unfold zU at hr;split at hr
 ·rename_i hn;injection hr with hr
  subst hr;refine xf fun w X vs hG hv=> ?_
  obtain⟨v,rfl,hv1⟩:=Bu hv;obtain rfl:=eC hv1;refine(h n hn.1 hn.2 w (hT w hG)).mono ?_;rintro e w' ⟨rfl,k,os,rfl⟩;refine⟨⟨_,rfl,fun M=> .str _⟩,rfl,rfl,rfl,by simp[grow,World.drewN],fun b hb _=> ?_,fun e=>by rw[hd]at e;cases e⟩
  unfold grow World.drewN;simp only;rw[Array.getElem?_append_left hb]
 ·cases hr
open Classical in
 def qa(s:ByteArray):Option (Int×Bool×Unit):=if s.size<=281474976710656 then
 match Lib.atoiAll s.data.toList with
 | .ok v=>some (v,true,())
 |Lib.NumEnd.syntax=>some (0,false,())
 | .range=>some (Lib.atoiSat s.data.toList,false,())
 else none
theorem Ya{P:Program}{f:FuncId}{s:ByteArray}{r:Int×Bool×Unit}{g1 g2 t1 t2 t5:Nat}(hd:mm=false)
  (hS:∀w,GI w->∃tp p,w.cell? ⟨g1,0,none⟩=some (.iface tp p)) (hR:∀w,GI w->∃tp p,w.cell? ⟨g2,0,none⟩=some (.iface tp p))
  (h1:∀(s:ByteArray) (_:s.size<=9223372036854775806) (v:Int) (_:Lib.atoiAll s.data.toList= .ok v) (w:World),Calls P f #[.string s] w fun e w'=>e= .returned (.tuple #[.int .i64 v,.nilIface])/\(w'=w\/∃t,w'=Lib.bytesWorld w t5 t))
  (h2:∀(s:ByteArray) (_:s.size<=281474976710656) (_:Lib.atoiAll s.data.toList=Lib.NumEnd.syntax) (ev:Value) (w:World) (_:w.cell? ⟨g1,0,none⟩=some ev) (_:ev= .nilIface\/∃te pe,ev= .iface te pe),Calls P f #[.string s] w fun e w'=>∃N,e= .returned (.tuple #[.int .i64 (0),.iface t1 (.pointer (some ⟨N,0,none⟩))])/\w.heap.size<=N/\w'.heap[N]?=some (.cells #[.string ⟨#[65,116,111,105]⟩,.string s,ev] t2 (0,0))/\Below w.heap.size w w')
  (h3:∀(s:ByteArray) (_:s.size<=281474976710656) (_:Lib.atoiAll s.data.toList= .range) (ev:Value) (w:World) (_:w.cell? ⟨g2,0,none⟩=some ev) (_:ev= .nilIface\/∃te pe,ev= .iface te pe),Calls P f #[.string s] w fun e w'=>∃N,e= .returned (.tuple #[.int .i64 (Lib.atoiSat s.data.toList),.iface t1 (.pointer (some ⟨N,0,none⟩))])/\w.heap.size<=N/\w'.heap[N]?=some (.cells #[.string ⟨#[65,116,111,105]⟩,.string s,ev] t2 (0,0))/\Below w.heap.size w w')
  (hr:qa s=some r):Bw P f false [] [.str s] (.cX [.int .i64 r.1,.iJ r.2.1]) []:=by
 unfold qa at hr;split at hr
 ·rename_i hs;refine xf fun w X vs hG hv=> ?_
  obtain⟨v,rfl,hv1⟩:=Bu hv;obtain rfl:=dH hv1
  have two:∀{w':World} {M:Nat->Prop} {n:Int} {b:Bool} {e:Value},aW w' M dm (.iJ b) e->aW w' M dm (.cX [.int .i64 n,.iJ b]) (.tuple #[.int .i64 n,e]):=fun{w' M n b e} he=>by
   refine .cX _ [.int .i64 n,e] rfl fun i x v h1 h2=> ?_
   match i,h1,h2 with
   |0,h1,h2=>injection h1 with h1;injection h2 with h2;subst h1 h2;exact .int _ _
   |1,h1,h2=>injection h1 with h1;injection h2 with h2;subst h1 h2;exact he
  split at hr
  ·rename_i v ha;injection hr with hr
   subst hr;refine(h1 s (by omega) v ha w).mono ?_
   rintro e w' ⟨rfl,hw⟩;refine⟨⟨_,rfl,fun M=>two .sf⟩,tC hd ?_⟩
   rcases hw with rfl|⟨t,rfl⟩
   ·exact Below.refl _ _
   ·exact Lib.bytesWorld_below _ _ _
  ·rename_i ha;injection hr with hr
   subst hr;obtain⟨tp,p,hc⟩:=hS w hG;refine(h2 s hs ha _ w hc (.inr ⟨_,_,rfl⟩)).mono ?_;rintro e w' ⟨N,rfl,_,_,hb⟩;exact⟨⟨_,rfl,fun M=>two (.si _ _)⟩,tC hd hb⟩
  ·rename_i ha;injection hr with hr
   subst hr;obtain⟨tp,p,hc⟩:=hR w hG;refine(h3 s hs ha _ w hc (.inr ⟨_,_,rfl⟩)).mono ?_;rintro e w' ⟨N,rfl,_,_,hb⟩;exact⟨⟨_,rfl,fun M=>two (.si _ _)⟩,tC hd hb⟩
 ·cases hr
def ff(xs:List ByteArray)(sep:ByteArray):List UInt8:=Lib.join (xs.map (·.data.toList)) sep.data.toList
open Classical in
 def zS(xs:List ByteArray)(sep:ByteArray):Option ByteArray:=if xs.length<=140737488355328/\(ff xs sep).length<=140737488355328 then some ⟨(ff xs sep).toArray⟩else none
theorem WG{w:World}{M:Nat->Prop}{G:Gh}{xs:List ByteArray}{v:Value}(h:aW w M G (.sl (xs.map fun s=>[.str s])) v):
  (xs=[]/\∃p c,v= .slice p 0 c)\/∃bk o c,v= .slice (some ⟨bk,o,none⟩) xs.length c/\xs.length<=c/\bk<w.heap.size/\∀(j:Nat) x,xs[j]?=some x->w.cell? ⟨bk,o+j,none⟩=some (.string x):=by
 cases xs with
 |nil=>
  refine .inl ⟨rfl,?_⟩
  cases h with
  |sl _ a c=>exact⟨_,_,rfl⟩
  |slnil=>exact⟨_,_,rfl⟩
 |cons x0 xs=>
  right;generalize he:((x0::xs).map fun s=>[PV.str s])=es at h
  cases h with
  |sl _ a c k vs hk hl hc hrep hn hm=>
   have hfl:∀l:List ByteArray,(l.map fun s=>[PV.str s]).flatten=l.map PV.str:=fun l=>by
    induction l with
    |nil=>rfl
    |cons y l ih=>rw[QD,List.flatten_cons,ih];rfl
   have hvs:∀(j:Nat) x,(x0::xs)[j]?=some x->w.cell? (a.add j)=some (.string x):=fun j x hx=>by
    have hj:j<(x0::xs).length:=(Qw.1 hx).1;have hvl:vs.length=(x0::xs).length:=by rw[hl,<-he,hfl,QC]
    have h1:vs[j]?=some vs[j]:=Qv (by omega)
    have h2:=hrep j (.str x) vs[j] (by rw[<-he,hfl,QT,hx];rfl) h1
    rw[dH h2]at h1;exact(hc j _ h1).1
   have h0:=hvs 0 x0 rfl
   have hsp:a.spot=none:=by
    unfold Addr.add World.cell? at h0;simp only[Qt]at h0;split at h0
    ·split at h0
     ·cases h0
     ·rename_i hh;cases hq:a.spot with
      |none=>rfl
      |some q=>rw[hq]at hh;exact absurd rfl hh
    ·cases h0
   obtain⟨bk,o,sp⟩:=a;simp only at hsp;subst hsp;refine⟨bk,o,c,by rw[<-he,QC],by rw[<-he,QC]at hn;exact hn,World.block_lt_of_cell? w _ h0,fun j x hx=> ?_⟩
   have:=hvs j x hx;unfold Addr.add at this;split at this
   ·rename_i hj;subst hj;exact this
   ·exact this
  |slnil=>simp at he
theorem XD{P:Program}{f:FuncId}{xs:List ByteArray}{sep r:ByteArray}(hd:mm=false)
  (h0:∀(a:Option Addr) (c:Nat) (sep:ByteArray) (w:World),Calls P f #[.slice a 0 c,.string sep] w fun e w'=>e= .returned (.string .empty)/\w'=w)
  (h:∀(bk o c:Nat) (xs:List ByteArray) (sep:ByteArray) (w:World) (_:∀(j:Nat) x,xs[j]?=some x->w.cell? ⟨bk,o+j,none⟩=some (.string x)) (_:bk<w.heap.size) (_:xs.length<=140737488355328) (_:xs.length<=c) (_:(Lib.join (xs.map (·.data.toList)) sep.data.toList).length<=140737488355328),
   Calls P f #[.slice (some ⟨bk,o,none⟩) xs.length c,.string sep] w fun e w'=>e= .returned (.string ⟨(Lib.join (xs.map (·.data.toList)) sep.data.toList).toArray⟩)/\Below w.heap.size w w')
  (hr:zS xs sep=some r):Bw P f false [] [.sl (xs.map fun s=>[.str s]),.str sep] (.str r) []:=by
 unfold zS at hr;split at hr
 ·rename_i hn;injection hr with hr
  subst hr;refine xf fun w X vs hG hv=> ?_
  obtain⟨v,u,rfl,hv1,hu⟩:=Bt hv;obtain rfl:=dH hu;rcases WG hv1 with⟨rfl,p,c,rfl⟩|⟨bk,o,c,rfl,hc,hb,hcells⟩
  ·refine(h0 p c sep w).mono ?_;rintro e w' ⟨rfl,rfl⟩;exact⟨⟨_,rfl,fun M=> .str _⟩,Fr.refl _ _⟩
  ·refine(h bk o c xs sep w hcells hb hn.1 hc hn.2).mono ?_;rintro e w' ⟨rfl,hw⟩;exact⟨⟨_,rfl,fun M=> .str _⟩,tC hd hw⟩
 ·cases hr
open Classical in
 def AR(s sep:ByteArray):Option (List ByteArray):=if s.size<4294967281/\1<=sep.size then some (Lib.splitB sep 0 (Lib.countB s sep) s)else none
theorem UM{P:Program}{f:FuncId}{s sep:ByteArray}{r:List ByteArray}{g e:Nat}(hM:∀w,GI w->∃m,w.cell? ⟨g,0,none⟩=some (.int .i64 m))
  (h:∀(s sep:ByteArray) (m:Int) (w:World) (_:s.size<4294967281) (_:w.cell? ⟨g,0,none⟩=some (.int .i64 m)) (_:1<=sep.size),
   Calls P f #[.string s,.string sep] w fun en w'=>en= .returned (.slice (some ⟨w.heap.size,0,none⟩) (Lib.countB s sep+1) (Lib.countB s sep+1))/\w'=w.alloc (.cells ((Lib.splitB sep 0 (Lib.countB s sep) s).map Value.string).toArray e))
  (hr:AR s sep=some r):Uf P f [.str s,.str sep] e 1 (r.map fun s=>[.str s]):=by
 unfold AR at hr;split at hr
 ·rename_i hn;injection hr with hr
  intro w X hX vs hv;obtain⟨v,u,rfl,hv1,hu⟩:=Bt hv;obtain rfl:=dH hv1;obtain rfl:=dH hu;obtain⟨m,hm⟩:=hM w hX.gi;refine(h s sep m w hn.1 hm hn.2).mono ?_;rintro en w' ⟨rfl,rfl⟩;have hlen:r.length=Lib.countB s sep+1:=by rw[<-hr];exact Lib.splitB_all sep hn.2 0 _ s rfl
  rw[hr]
  have hfl:∀l:List ByteArray,(l.map fun s=>[PV.str s]).flatten=l.map PV.str:=fun l=>by
   induction l with
   |nil=>rfl
   |cons y l ih=>rw[QD,List.flatten_cons,ih];rfl
  have hnew:(w.alloc (.cells (r.map Value.string).toArray e)).heap[w.heap.size]?=some (.cells (r.map Value.string).toArray e (0,0)):=World.alloc_heap_new w _;have hle:=Lib.countB_le sep hn.2 s.size s (QI _);refine⟨_,rfl,⟨r.map Value.string,⟨?_,.inr ⟨w.heap.size,Lib.countB s sep+1,(r.map Value.string).toArray,?_⟩⟩,?_,?_⟩,?_,?_⟩
  ·simp[hlen]
  ·have h63:=hn.1;refine⟨by rw[QC,hlen],QS _,hnew,by rw[QC,hlen];exact QI _,by unfold maxLen;omega,by simp[hlen],by rw[QC,Nat.mul_one];exact List.take_of_length_le (by simp)⟩
  ·intro x hx;obtain⟨y,_,rfl⟩:=QP.1 hx;rfl
  ·rw[hfl];refine⟨by simp,fun i x v h1 h2=> ?_⟩
   rw[QT]at h1 h2
   cases hq:r[i]? with
   |none=>rw[hq]at h1;cases h1
   |some y=>rw[hq]at h1 h2;injection h1 with h1;injection h2 with h2;subst h1 h2;exact .str _
  ·intro b hb;injection hb with hb
   rw[<-hb];exact QI _
  ·refine⟨rfl,rfl,rfl,by simp,fun b hb _=>Below.heap_alloc w _ b hb,DL.refl _⟩
 ·cases hr
open Classical in
 def Bj(s sep:ByteArray):Option Int:=if s.size<4294967281/\1<=sep.size then some (Lib.countB s sep)else none
theorem V9{P:Program}{f:FuncId}{s sep:ByteArray}{r:Int}{g:Nat}(hM:∀w,GI w->∃m,w.cell? ⟨g,0,none⟩=some (.int .i64 m))
  (h:∀(s sep:ByteArray) (m:Int) (w:World) (_:s.size<4294967281) (_:w.cell? ⟨g,0,none⟩=some (.int .i64 m)) (_:1<=sep.size),Calls P f #[.string s,.string sep] w fun e w'=>e= .returned (.int .i64 (Lib.countB s sep))/\w'=w)
  (hr:Bj s sep=some r):Bw P f false [] [.str s,.str sep] (.int .i64 r) []:=by
 unfold Bj at hr;split at hr
 ·rename_i hn;injection hr with hr
  subst hr;refine xf fun w X vs hG hv=> ?_
  obtain⟨v,u,rfl,hv1,hu⟩:=Bt hv;obtain rfl:=dH hv1;obtain rfl:=dH hu;obtain⟨m,hm⟩:=hM w hG;refine(h s sep m w hn.1 hm hn.2).mono ?_;rintro e w' ⟨rfl,rfl⟩;exact⟨⟨_,rfl,fun M=> .int _ _⟩,Fr.refl _ _⟩
 ·cases hr
open Classical in
 def EK(s p:ByteArray):Option ByteArray:=if s.size<=9223372036854775807 then some ⟨(Lib.trimSuffix s.data.toList p.data.toList).toArray⟩else none
theorem WC{P:Program}{f:FuncId}{s p r:ByteArray}
  (h:∀(s p:ByteArray) (w:World) (_:s.size<=9223372036854775807),Calls P f #[.string s,.string p] w fun e w'=>e= .returned (.string ⟨(Lib.trimSuffix s.data.toList p.data.toList).toArray⟩)/\w'=w)
  (hr:EK s p=some r):Bw P f false [] [.str s,.str p] (.str r) []:=by
 unfold EK at hr;split at hr
 ·rename_i hn;injection hr with hr
  subst hr;refine xf fun w X vs hG hv=> ?_
  obtain⟨v,u,rfl,hv1,hu⟩:=Bt hv;obtain rfl:=dH hv1;obtain rfl:=dH hu;refine(h s p w hn).mono ?_;rintro e w' ⟨rfl,rfl⟩;exact⟨⟨_,rfl,fun M=> .str _⟩,Fr.refl _ _⟩
 ·cases hr
def Cd(s p:ByteArray):Option Bool:=some (Lib.hasPrefix s.data.toList p.data.toList)
theorem Me{P:Program}{f:FuncId}{s p:ByteArray}{r:Bool}
  (h:∀(s p:ByteArray) (w:World),Calls P f #[.string s,.string p] w fun e w'=>e= .returned (.bool (Lib.hasPrefix s.data.toList p.data.toList))/\w'=w)
  (hr:Cd s p=some r):Bw P f false [] [.str s,.str p] (.bool r) []:=by
 injection hr with hr
 subst hr;refine xf fun w X vs hG hv=> ?_
 obtain⟨v,u,rfl,hv1,hu⟩:=Bt hv;obtain rfl:=dH hv1;obtain rfl:=dH hu;refine(h s p w).mono ?_;rintro e w' ⟨rfl,rfl⟩;exact⟨⟨_,rfl,fun M=> .bool _⟩,Fr.refl _ _⟩
def uE(s:ByteArray)(c:Int):Option Int:=some (Lib.indexByte s.data.toList c.toNat.toUInt8)
theorem Md{P:Program}{f:FuncId}{s:ByteArray}{c r:Int}
  (h:∀(s:ByteArray) (c:Int) (w:World),Calls P f #[.string s,.int .u8 c] w fun e w'=>e= .returned (.int .i64 (Lib.indexByte s.data.toList c.toNat.toUInt8))/\w'=w)
  (hr:uE s c=some r):Bw P f false [] [.str s,.int .u8 c] (.int .i64 r) []:=by
 injection hr with hr
 subst hr;refine xf fun w X vs hG hv=> ?_
 obtain⟨v,u,rfl,hv1,hu⟩:=Bt hv;obtain rfl:=dH hv1;obtain rfl:=eC hu;refine(h s c w).mono ?_;rintro e w' ⟨rfl,rfl⟩;exact⟨⟨_,rfl,fun M=> .int _ _⟩,Fr.refl _ _⟩
theorem GI.cell{w:World}(h:GI w){g:Nat}{p:Value->Prop}(hm:(g,fun o:Obj=>∃v T fr,o= .cells #[v] T fr/\p v)∈xO):∃v,w.cell? ⟨g,0,none⟩=some v/\p v:=by
 obtain⟨o,ho,v,T,fr,rfl,hp⟩:=h _ hm;exact⟨v,by unfold World.cell?;simp only;rw[ho];rfl,hp⟩
theorem GI.row{P:Program}{w:World}(h:GI w){g:Nat}{name:String}{cs:Array Value}(hn:P.globalNamed name=some g)(hm:(g,fun o:Obj=>∃T fr,o= .cells cs T fr)∈xO):w.var? P name=some cs:=by
 obtain⟨o,ho,T,fr,rfl⟩:=h _ hm;unfold World.var?;simp only at ho;rw[hn,Qa,ho]
end
end Go.TQ
end
noncomputable section
namespace Go.Proofs
open Go.Shelf
def Tryz.Gj:Go.Shelf.Ren:=⟨fun|169=>24|n=>n,fun|70=>73|9=>9|0=>0|72=>76|37=>74|127=>111|3=>3|5=>5|n=>n,fun|n=>n⟩
theorem Tryz.ZR:Go.Proofs.Lays.n169 Tryz.prog Tryz.Gj:={
 mixed:=by kernel_rfl
 f169:=Tryz.func24.trans (congrArg some (by kernel_rfl))
 t0:=Tryz.underlying0
 a0:=Tryz.isAgg0
 z0:=Tryz.sizeOf0
 v0:=Tryz.zeroValue0
 t3:=Tryz.underlying3
 a3:=Tryz.isAgg3
 z3:=Tryz.sizeOf3
 v3:=Tryz.zeroValue3
 t9:=Tryz.underlying9
 a9:=Tryz.isAgg9
 z9:=Tryz.sizeOf9
 v9:=Tryz.zeroValue9
 t37:=Tryz.underlying74
 a37:=Tryz.isAgg74
 z37:=Tryz.sizeOf74
 v37:=Tryz.zeroValue74
 t70:=Tryz.underlying73
 a70:=Tryz.isAgg73
 z70:=Tryz.sizeOf73
 v70:=Tryz.zeroValue73
 t72:=Tryz.underlying76
 a72:=Tryz.isAgg76
 z72:=Tryz.sizeOf76
 v72:=Tryz.zeroValue76
 t127:=Tryz.underlying111
 a127:=Tryz.isAgg111
 z127:=Tryz.sizeOf111
 v127:=Tryz.zeroValue111}
theorem Tryz.FU:Builder.Extra Tryz.prog Tryz.Gj:={
 sizeBuilder:=by kernel_rfl
 liesBuilder:=by kernel_rfl
 t5:=Tryz.underlying5
 a5:=Tryz.isAgg5
 z5:=Tryz.sizeOf5
 v5:=Tryz.zeroValue5
 infoByte:=by kernel_rfl
 cellsByte:=by kernel_rfl
 sizeByte:=by kernel_rfl
 neB5:=by decide}
def Tryz.Ap:Go.Shelf.Ren:=⟨fun|156=>59|165=>107|166=>23|169=>24|240=>47|241=>152|276=>99|277=>187|n=>n,fun|31=>37|9=>9|3=>3|4=>4|0=>0|20=>20|72=>76|76=>79|70=>73|37=>74|75=>78|127=>111|164=>159|5=>5|80=>81|n=>n,fun|n=>n⟩
theorem Tryz.JJ:Go.Proofs.Lays.n156 Tryz.prog Tryz.Ap:={
 mixed:=by kernel_rfl
 f156:=Tryz.func59.trans (congrArg some (by kernel_rfl))
 f165:=Tryz.func107.trans (congrArg some (by kernel_rfl))
 f166:=Tryz.func23.trans (congrArg some (by kernel_rfl))
 f169:=Tryz.func24.trans (congrArg some (by kernel_rfl))
 f240:=Tryz.func47.trans (congrArg some (by kernel_rfl))
 f241:=Tryz.func152.trans (congrArg some (by kernel_rfl))
 f276:=Tryz.func99.trans (congrArg some (by kernel_rfl))
 f277:=Tryz.func187.trans (congrArg some (by kernel_rfl))
 t0:=Tryz.underlying0
 a0:=Tryz.isAgg0
 z0:=Tryz.sizeOf0
 v0:=Tryz.zeroValue0
 t3:=Tryz.underlying3
 a3:=Tryz.isAgg3
 z3:=Tryz.sizeOf3
 v3:=Tryz.zeroValue3
 t4:=Tryz.underlying4
 a4:=Tryz.isAgg4
 z4:=Tryz.sizeOf4
 v4:=Tryz.zeroValue4
 t9:=Tryz.underlying9
 a9:=Tryz.isAgg9
 z9:=Tryz.sizeOf9
 v9:=Tryz.zeroValue9
 t20:=Tryz.underlying20
 a20:=Tryz.isAgg20
 z20:=Tryz.sizeOf20
 v20:=Tryz.zeroValue20
 t31:=Tryz.underlying37
 a31:=Tryz.isAgg37
 z31:=Tryz.sizeOf37
 v31:=Tryz.zeroValue37
 t37:=Tryz.underlying74
 a37:=Tryz.isAgg74
 z37:=Tryz.sizeOf74
 v37:=Tryz.zeroValue74
 t70:=Tryz.underlying73
 a70:=Tryz.isAgg73
 z70:=Tryz.sizeOf73
 v70:=Tryz.zeroValue73
 t72:=Tryz.underlying76
 a72:=Tryz.isAgg76
 z72:=Tryz.sizeOf76
 v72:=Tryz.zeroValue76
 t75:=Tryz.underlying78
 a75:=Tryz.isAgg78
 z75:=Tryz.sizeOf78
 v75:=Tryz.zeroValue78
 t76:=Tryz.underlying79
 a76:=Tryz.isAgg79
 z76:=Tryz.sizeOf79
 v76:=Tryz.zeroValue79
 t127:=Tryz.underlying111
 a127:=Tryz.isAgg111
 z127:=Tryz.sizeOf111
 v127:=Tryz.zeroValue111
 t164:=Tryz.underlying159
 a164:=Tryz.isAgg159
 z164:=Tryz.sizeOf159
 v164:=Tryz.zeroValue159}
theorem Tryz.sy:Builder.Extra Tryz.prog Tryz.Ap:={
 sizeBuilder:=by kernel_rfl
 liesBuilder:=by kernel_rfl
 t5:=Tryz.underlying5
 a5:=Tryz.isAgg5
 z5:=Tryz.sizeOf5
 v5:=Tryz.zeroValue5
 infoByte:=by kernel_rfl
 cellsByte:=by kernel_rfl
 sizeByte:=by kernel_rfl
 neB5:=by decide}
open Go.RowKit in
theorem Tryz.strings_Join_none(a:Option Addr)(c:Nat)(sep:ByteArray)(w:World):
  Calls Tryz.prog 59 #[.slice a 0 c,.string sep] w fun e w'=>e= .returned (.string ⟨#[]⟩)/\w'=w:=Any.strings_Join_none Tryz.JJ Tryz.sy a c sep w
open Go.RowKit in
theorem Tryz.strings_Join(bk o c:Nat)(xs:List ByteArray)(sep:ByteArray)(w:World)(hcells:∀(j:Nat) x,xs[j]?=some x->w.cell? ⟨bk,o+j,none⟩=some (.string x))(hbk:bk<w.heap.size)(hN:xs.length<=140737488355328)(hcap:xs.length<=c)(hlen:(Lib.join (xs.map (·.data.toList)) sep.data.toList).length<=140737488355328):
  Calls Tryz.prog 59 #[.slice (some ⟨bk,o,none⟩) xs.length c,.string sep] w fun e w'=>e= .returned (.string ⟨(Lib.join (xs.map (·.data.toList)) sep.data.toList).toArray⟩)/\Below w.heap.size w w':=Any.strings_Join Tryz.JJ Tryz.sy bk o c xs sep w hcells hbk hN hcap hlen
def Tryz.PF:Go.Shelf.Ren:=⟨fun|137=>53|217=>101|266=>145|n=>n,fun|9=>9|5=>5|3=>3|n=>n,fun|n=>n⟩
theorem Tryz.ZU:Go.Proofs.Lays.n137 Tryz.prog Tryz.PF:={
 mixed:=by kernel_rfl
 f137:=Tryz.func53.trans (congrArg some (by kernel_rfl))
 f217:=Tryz.func101.trans (congrArg some (by kernel_rfl))
 f266:=Tryz.func145.trans (congrArg some (by kernel_rfl))
 t3:=Tryz.underlying3
 a3:=Tryz.isAgg3
 z3:=Tryz.sizeOf3
 v3:=Tryz.zeroValue3
 t5:=Tryz.underlying5
 a5:=Tryz.isAgg5
 z5:=Tryz.sizeOf5
 v5:=Tryz.zeroValue5
 t9:=Tryz.underlying9
 a9:=Tryz.isAgg9
 z9:=Tryz.sizeOf9
 v9:=Tryz.zeroValue9}
open Go.RowKit in
theorem Tryz.strings_IndexByte(s:ByteArray)(c:Int)(w:World):
  Calls Tryz.prog 53 #[.string s,.int .u8 c] w fun e w'=>e= .returned (.int .i64 (Lib.indexByte s.data.toList c.toNat.toUInt8))/\w'=w:=Any.strings_IndexByte Tryz.ZU s c w
open Go.RowKit in
theorem Tryz.Builder_String_any_k(B b:Nat)(l:List UInt8)(w:World)(h:Lib.IsBuilderF 76 5 B b (Lib.byteCells l) w)(hBw:B<=w.heap.size):
  Calls Tryz.prog 24 #[.pointer (some ⟨b,0,none⟩)] w fun e w'=>e= .returned (.string ⟨l.toArray⟩)/\(Lib.IsBuilderF 76 5 B b (Lib.byteCells l) w'/\Below B w w'/\Lib.OthersKept 5 (some b) w w'):=Any.Builder_String_any_k Tryz.ZR Tryz.FU B b l w h hBw
def Tryz.NC:Go.Shelf.Ren:=⟨fun|171=>111|243=>155|246=>189|283=>223|284=>224|285=>225|286=>226|129=>244|317=>243|318=>245|319=>246|320=>247|337=>265|338=>266|n=>n,fun|3=>3|9=>9|2=>2|4=>4|171=>266|0=>0|53=>198|37=>74|5=>5|173=>269|212=>290|51=>222|20=>20|213=>291|46=>72|232=>331|233=>332|n=>n,fun|17=>5|18=>6|19=>7|n=>n⟩
theorem Tryz.XB:Go.Proofs.LaysM.n171 Tryz.prog Tryz.NC:={
 mixed:=by kernel_rfl
 f129:=Tryz.func244.trans (congrArg some (by kernel_rfl))
 f171:=Tryz.func111.trans (congrArg some (by kernel_rfl))
 f243:=Tryz.func155.trans (congrArg some (by kernel_rfl))
 f246:=Tryz.func189.trans (congrArg some (by kernel_rfl))
 f283:=Tryz.func223.trans (congrArg some (by kernel_rfl))
 f284:=Tryz.func224.trans (congrArg some (by kernel_rfl))
 f285:=Tryz.func225.trans (congrArg some (by kernel_rfl))
 f286:=Tryz.func226.trans (congrArg some (by kernel_rfl))
 f317:=Tryz.func243.trans (congrArg some (by kernel_rfl))
 f318:=Tryz.func245.trans (congrArg some (by kernel_rfl))
 f319:=Tryz.func246.trans (congrArg some (by kernel_rfl))
 f320:=Tryz.func247.trans (congrArg some (by kernel_rfl))
 f337:=Tryz.func265.trans (congrArg some (by kernel_rfl))
 f338:=Tryz.func266.trans (congrArg some (by kernel_rfl))
 t0:=Tryz.underlying0
 a0:=Tryz.isAgg0
 z0:=Tryz.sizeOf0
 v0:=Tryz.zeroValue0
 t2:=Tryz.underlying2
 a2:=Tryz.isAgg2
 z2:=Tryz.sizeOf2
 v2:=Tryz.zeroValue2
 t3:=Tryz.underlying3
 a3:=Tryz.isAgg3
 z3:=Tryz.sizeOf3
 v3:=Tryz.zeroValue3
 t4:=Tryz.underlying4
 a4:=Tryz.isAgg4
 z4:=Tryz.sizeOf4
 v4:=Tryz.zeroValue4
 t5:=Tryz.underlying5
 a5:=Tryz.isAgg5
 z5:=Tryz.sizeOf5
 v5:=Tryz.zeroValue5
 t9:=Tryz.underlying9
 a9:=Tryz.isAgg9
 z9:=Tryz.sizeOf9
 v9:=Tryz.zeroValue9
 t20:=Tryz.underlying20
 a20:=Tryz.isAgg20
 z20:=Tryz.sizeOf20
 v20:=Tryz.zeroValue20
 t37:=Tryz.underlying74
 a37:=Tryz.isAgg74
 z37:=Tryz.sizeOf74
 v37:=Tryz.zeroValue74
 t46:=Tryz.underlying72
 a46:=Tryz.isAgg72
 z46:=Tryz.sizeOf72
 v46:=Tryz.zeroValue72
 t51:=Tryz.underlying222
 a51:=Tryz.isAgg222
 z51:=Tryz.sizeOf222
 v51:=Tryz.zeroValue222
 t53:=Tryz.underlying198
 a53:=Tryz.isAgg198
 z53:=Tryz.sizeOf198
 v53:=Tryz.zeroValue198
 t171:=Tryz.underlying266
 a171:=Tryz.isAgg266
 z171:=Tryz.sizeOf266
 v171:=Tryz.zeroValue266
 t173:=Tryz.underlying269
 a173:=Tryz.isAgg269
 z173:=Tryz.sizeOf269
 v173:=Tryz.zeroValue269
 t212:=Tryz.underlying290
 a212:=Tryz.isAgg290
 z212:=Tryz.sizeOf290
 v212:=Tryz.zeroValue290
 t213:=Tryz.underlying291
 a213:=Tryz.isAgg291
 z213:=Tryz.sizeOf291
 t232:=Tryz.underlying331
 a232:=Tryz.isAgg331
 z232:=Tryz.sizeOf331
 v232:=Tryz.zeroValue331
 t233:=Tryz.underlying332
 a233:=Tryz.isAgg332
 z233:=Tryz.sizeOf332
 v233:=Tryz.zeroValue332
 g17:=by kernel_rfl
 g18:=by kernel_rfl
 g19:=by kernel_rfl
 i0:=by kernel_rfl
 i2:=by kernel_rfl
 i3:=by kernel_rfl
 i4:=by kernel_rfl
 i5:=by kernel_rfl
 i9:=by kernel_rfl
 i20:=by kernel_rfl
 i37:=by kernel_rfl
 i46:=by kernel_rfl
 i51:=by kernel_rfl
 i53:=by kernel_rfl
 i171:=by kernel_rfl
 i173:=by kernel_rfl
 i212:=by kernel_rfl
 i232:=by kernel_rfl
 i233:=by kernel_rfl
 m17:=by kernel_rfl
 m18:=by kernel_rfl
 m19:=by kernel_rfl}
open Go.RowKit Go.Sort Go.Lib in
theorem Tryz.strconv_Itoa(n:Int)(h0: -9223372036854775808<=n)(h1:n<=9223372036854775807)(w:World)(htab:Lib.TabIs Tryz.prog w "internal/strconv.uint64pow10" .u64 Lib.pow10Tab):
  Calls Tryz.prog 111 #[.int .i64 n] w fun e w'=>e= .returned (.string ⟨(Lib.itoa n).toArray⟩)/\∃k os,w'=grow (w.drewN k) os:=Any.strconv_Itoa Tryz.XB n h0 h1 w htab
def Tryz.ND:Go.Shelf.Ren:=⟨fun|172=>103|244=>147|245=>148|247=>181|279=>182|280=>183|281=>184|282=>185|287=>220|316=>221|171=>111|205=>222|321=>241|322=>242|243=>155|246=>189|283=>223|284=>224|285=>225|286=>226|129=>244|317=>243|318=>245|319=>246|320=>247|337=>265|338=>266|n=>n,fun|9=>9|3=>3|75=>78|76=>79|4=>4|5=>5|167=>227|37=>74|0=>0|85=>228|2=>2|168=>230|53=>198|175=>260|46=>72|210=>264|127=>111|145=>288|143=>286|21=>21|171=>266|173=>269|212=>290|51=>222|20=>20|213=>291|232=>331|233=>332|80=>81|n=>n,fun|15=>1|16=>2|17=>5|18=>6|19=>7|n=>n⟩
theorem Tryz.GO:Go.Proofs.LaysC.n172 Tryz.prog Tryz.ND:={
 mixed:=by kernel_rfl
 f129:=Tryz.func244.trans (congrArg some (by kernel_rfl))
 f171:=Tryz.func111.trans (congrArg some (by kernel_rfl))
 f172:=Tryz.func103.trans (congrArg some (by kernel_rfl))
 f205:=Tryz.func222.trans (congrArg some (by kernel_rfl))
 f243:=Tryz.func155.trans (congrArg some (by kernel_rfl))
 f244:=Tryz.func147.trans (congrArg some (by kernel_rfl))
 f245:=Tryz.func148.trans (congrArg some (by kernel_rfl))
 f246:=Tryz.func189.trans (congrArg some (by kernel_rfl))
 f247:=Tryz.func181.trans (congrArg some (by kernel_rfl))
 f279:=Tryz.func182.trans (congrArg some (by kernel_rfl))
 f280:=Tryz.func183.trans (congrArg some (by kernel_rfl))
 f281:=Tryz.func184.trans (congrArg some (by kernel_rfl))
 f282:=Tryz.func185.trans (congrArg some (by kernel_rfl))
 f283:=Tryz.func223.trans (congrArg some (by kernel_rfl))
 f284:=Tryz.func224.trans (congrArg some (by kernel_rfl))
 f285:=Tryz.func225.trans (congrArg some (by kernel_rfl))
 f286:=Tryz.func226.trans (congrArg some (by kernel_rfl))
 f287:=Tryz.func220.trans (congrArg some (by kernel_rfl))
 f316:=Tryz.func221.trans (congrArg some (by kernel_rfl))
 f317:=Tryz.func243.trans (congrArg some (by kernel_rfl))
 f318:=Tryz.func245.trans (congrArg some (by kernel_rfl))
 f319:=Tryz.func246.trans (congrArg some (by kernel_rfl))
 f320:=Tryz.func247.trans (congrArg some (by kernel_rfl))
 f321:=Tryz.func241.trans (congrArg some (by kernel_rfl))
 f322:=Tryz.func242.trans (congrArg some (by kernel_rfl))
 f337:=Tryz.func265.trans (congrArg some (by kernel_rfl))
 f338:=Tryz.func266.trans (congrArg some (by kernel_rfl))
 t0:=Tryz.underlying0
 a0:=Tryz.isAgg0
 z0:=Tryz.sizeOf0
 v0:=Tryz.zeroValue0
 t2:=Tryz.underlying2
 a2:=Tryz.isAgg2
 z2:=Tryz.sizeOf2
 v2:=Tryz.zeroValue2
 t3:=Tryz.underlying3
 a3:=Tryz.isAgg3
 z3:=Tryz.sizeOf3
 v3:=Tryz.zeroValue3
 t4:=Tryz.underlying4
 a4:=Tryz.isAgg4
 z4:=Tryz.sizeOf4
 v4:=Tryz.zeroValue4
 t5:=Tryz.underlying5
 a5:=Tryz.isAgg5
 z5:=Tryz.sizeOf5
 v5:=Tryz.zeroValue5
 t9:=Tryz.underlying9
 a9:=Tryz.isAgg9
 z9:=Tryz.sizeOf9
 v9:=Tryz.zeroValue9
 t20:=Tryz.underlying20
 a20:=Tryz.isAgg20
 z20:=Tryz.sizeOf20
 v20:=Tryz.zeroValue20
 t21:=Tryz.underlying21
 a21:=Tryz.isAgg21
 z21:=Tryz.sizeOf21
 v21:=Tryz.zeroValue21
 t37:=Tryz.underlying74
 a37:=Tryz.isAgg74
 z37:=Tryz.sizeOf74
 v37:=Tryz.zeroValue74
 t46:=Tryz.underlying72
 a46:=Tryz.isAgg72
 z46:=Tryz.sizeOf72
 v46:=Tryz.zeroValue72
 t51:=Tryz.underlying222
 a51:=Tryz.isAgg222
 z51:=Tryz.sizeOf222
 v51:=Tryz.zeroValue222
 t53:=Tryz.underlying198
 a53:=Tryz.isAgg198
 z53:=Tryz.sizeOf198
 v53:=Tryz.zeroValue198
 t75:=Tryz.underlying78
 a75:=Tryz.isAgg78
 z75:=Tryz.sizeOf78
 v75:=Tryz.zeroValue78
 t76:=Tryz.underlying79
 a76:=Tryz.isAgg79
 z76:=Tryz.sizeOf79
 v76:=Tryz.zeroValue79
 t85:=Tryz.underlying228
 a85:=Tryz.isAgg228
 z85:=Tryz.sizeOf228
 v85:=Tryz.zeroValue228
 t127:=Tryz.underlying111
 a127:=Tryz.isAgg111
 z127:=Tryz.sizeOf111
 v127:=Tryz.zeroValue111
 t143:=Tryz.underlying286
 a143:=Tryz.isAgg286
 z143:=Tryz.sizeOf286
 v143:=Tryz.zeroValue286
 t145:=Tryz.underlying288
 a145:=Tryz.isAgg288
 z145:=Tryz.sizeOf288
 v145:=Tryz.zeroValue288
 t167:=Tryz.underlying227
 a167:=Tryz.isAgg227
 z167:=Tryz.sizeOf227
 v167:=Tryz.zeroValue227
 t168:=Tryz.underlying230
 a168:=Tryz.isAgg230
 z168:=Tryz.sizeOf230
 v168:=Tryz.zeroValue230
 t171:=Tryz.underlying266
 a171:=Tryz.isAgg266
 z171:=Tryz.sizeOf266
 v171:=Tryz.zeroValue266
 t173:=Tryz.underlying269
 a173:=Tryz.isAgg269
 z173:=Tryz.sizeOf269
 v173:=Tryz.zeroValue269
 t175:=Tryz.underlying260
 a175:=Tryz.isAgg260
 z175:=Tryz.sizeOf260
 v175:=Tryz.zeroValue260
 t210:=Tryz.underlying264
 a210:=Tryz.isAgg264
 z210:=Tryz.sizeOf264
 v210:=Tryz.zeroValue264
 t212:=Tryz.underlying290
 a212:=Tryz.isAgg290
 z212:=Tryz.sizeOf290
 v212:=Tryz.zeroValue290
 t213:=Tryz.underlying291
 a213:=Tryz.isAgg291
 z213:=Tryz.sizeOf291
 t232:=Tryz.underlying331
 a232:=Tryz.isAgg331
 z232:=Tryz.sizeOf331
 v232:=Tryz.zeroValue331
 t233:=Tryz.underlying332
 a233:=Tryz.isAgg332
 z233:=Tryz.sizeOf332
 v233:=Tryz.zeroValue332
 g15:=by kernel_rfl
 g16:=by kernel_rfl
 g17:=by kernel_rfl
 g18:=by kernel_rfl
 g19:=by kernel_rfl
 t80:=Tryz.underlying81
 a80:=Tryz.isAgg81
 z80:=Tryz.sizeOf81
 v80:=Tryz.zeroValue81
 i0:=by kernel_rfl
 i2:=by kernel_rfl
 i3:=by kernel_rfl
 i4:=by kernel_rfl
 i5:=by kernel_rfl
 i9:=by kernel_rfl
 i20:=by kernel_rfl
 i21:=by kernel_rfl
 i37:=by kernel_rfl
 i46:=by kernel_rfl
 i51:=by kernel_rfl
 i53:=by kernel_rfl
 i75:=by kernel_rfl
 i76:=by kernel_rfl
 i80:=by kernel_rfl
 i85:=by kernel_rfl
 i127:=by kernel_rfl
 i143:=by kernel_rfl
 i145:=by kernel_rfl
 i167:=by kernel_rfl
 i168:=by kernel_rfl
 i171:=by kernel_rfl
 i173:=by kernel_rfl
 i175:=by kernel_rfl
 i210:=by kernel_rfl
 i212:=by kernel_rfl
 i232:=by kernel_rfl
 i233:=by kernel_rfl
 m15:=by kernel_rfl
 m16:=by kernel_rfl
 m17:=by kernel_rfl
 m18:=by kernel_rfl
 m19:=by kernel_rfl
 c0:=by kernel_rfl
 c2:=by kernel_rfl
 c3:=by kernel_rfl
 c4:=by kernel_rfl
 c5:=by kernel_rfl
 c9:=by kernel_rfl
 c20:=by kernel_rfl
 c21:=by kernel_rfl
 c37:=by kernel_rfl
 c46:=by kernel_rfl
 c51:=by kernel_rfl
 c53:=by kernel_rfl
 c75:=by kernel_rfl
 c76:=by kernel_rfl
 c80:=by kernel_rfl
 c85:=by kernel_rfl
 c127:=by kernel_rfl
 c143:=by kernel_rfl
 c145:=by kernel_rfl
 c167:=by kernel_rfl
 c168:=by kernel_rfl
 c171:=by kernel_rfl
 c173:=by kernel_rfl
 c175:=by kernel_rfl
 c210:=by kernel_rfl
 c212:=by kernel_rfl
 c213:=by kernel_rfl
 c232:=by kernel_rfl
 c233:=by kernel_rfl}
open Go.RowKit in
theorem Tryz.strconv_Atoi_ok(s:ByteArray)(hmax:s.size<=9223372036854775806)(v:Int)(h:Lib.atoiAll s.data.toList= .ok v)(w:World):
  Calls Tryz.prog 103 #[.string s] w fun e w'=>e= .returned (.tuple #[.int .i64 v,.nilIface])/\(w'=w\/∃t,w'=Lib.bytesWorld w 5 t):=Any.strconv_Atoi_ok Tryz.GO s hmax v h w
open Go.RowKit in
theorem Tryz.strconv_Atoi_syntax(s:ByteArray)(hlim:s.size<=281474976710656)(h:Lib.atoiAll s.data.toList=Lib.NumEnd.syntax)(ev:Value)(w:World)(hv:w.cell? ⟨1,0,none⟩=some ev)(hev:ev= .nilIface\/∃te pe,ev= .iface te pe):
  Calls Tryz.prog 103 #[.string s] w fun e w'=>∃N,e= .returned (.tuple #[.int .i64 (0),.iface 230 (.pointer (some ⟨N,0,none⟩))])/\w.heap.size<=N/\w'.heap[N]?=some (.cells #[.string ⟨#[65,116,111,105]⟩,.string s,ev] 264 (0,0))/\Below w.heap.size w w':=Any.strconv_Atoi_syntax Tryz.GO s hlim h ev w hv hev
open Go.RowKit in
theorem Tryz.strconv_Atoi_range(s:ByteArray)(hlim:s.size<=281474976710656)(h:Lib.atoiAll s.data.toList= .range)(ev:Value)(w:World)(hv:w.cell? ⟨2,0,none⟩=some ev)(hev:ev= .nilIface\/∃te pe,ev= .iface te pe):
  Calls Tryz.prog 103 #[.string s] w fun e w'=>∃N,e= .returned (.tuple #[.int .i64 (Lib.atoiSat s.data.toList),.iface 230 (.pointer (some ⟨N,0,none⟩))])/\w.heap.size<=N/\w'.heap[N]?=some (.cells #[.string ⟨#[65,116,111,105]⟩,.string s,ev] 264 (0,0))/\Below w.heap.size w w':=Any.strconv_Atoi_range Tryz.GO s hlim h ev w hv hev
def Tryz.PE:Go.Shelf.Ren:=⟨fun|138=>25|195=>48|218=>49|143=>50|219=>100|217=>101|225=>142|224=>143|267=>144|266=>145|314=>179|n=>n,fun|9=>9|3=>3|4=>4|5=>5|0=>0|46=>72|146=>223|51=>222|n=>n,fun|1=>0|n=>n⟩
theorem Tryz.ZT:Go.Proofs.Lays.n138 Tryz.prog Tryz.PE:={
 mixed:=by kernel_rfl
 f138:=Tryz.func25.trans (congrArg some (by kernel_rfl))
 f143:=Tryz.func50.trans (congrArg some (by kernel_rfl))
 f195:=Tryz.func48.trans (congrArg some (by kernel_rfl))
 f217:=Tryz.func101.trans (congrArg some (by kernel_rfl))
 f218:=Tryz.func49.trans (congrArg some (by kernel_rfl))
 f219:=Tryz.func100.trans (congrArg some (by kernel_rfl))
 f224:=Tryz.func143.trans (congrArg some (by kernel_rfl))
 f225:=Tryz.func142.trans (congrArg some (by kernel_rfl))
 f266:=Tryz.func145.trans (congrArg some (by kernel_rfl))
 f267:=Tryz.func144.trans (congrArg some (by kernel_rfl))
 f314:=Tryz.func179.trans (congrArg some (by kernel_rfl))
 t0:=Tryz.underlying0
 a0:=Tryz.isAgg0
 z0:=Tryz.sizeOf0
 v0:=Tryz.zeroValue0
 t3:=Tryz.underlying3
 a3:=Tryz.isAgg3
 z3:=Tryz.sizeOf3
 v3:=Tryz.zeroValue3
 t4:=Tryz.underlying4
 a4:=Tryz.isAgg4
 z4:=Tryz.sizeOf4
 v4:=Tryz.zeroValue4
 t5:=Tryz.underlying5
 a5:=Tryz.isAgg5
 z5:=Tryz.sizeOf5
 v5:=Tryz.zeroValue5
 t9:=Tryz.underlying9
 a9:=Tryz.isAgg9
 z9:=Tryz.sizeOf9
 v9:=Tryz.zeroValue9
 t46:=Tryz.underlying72
 a46:=Tryz.isAgg72
 z46:=Tryz.sizeOf72
 v46:=Tryz.zeroValue72
 t51:=Tryz.underlying222
 a51:=Tryz.isAgg222
 z51:=Tryz.sizeOf222
 v51:=Tryz.zeroValue222
 t146:=Tryz.underlying223
 a146:=Tryz.isAgg223
 z146:=Tryz.sizeOf223
 v146:=Tryz.zeroValue223
 g1:=by kernel_rfl}
def Tryz.Tg:Go.Shelf.Ren:=⟨fun|99=>149|206=>186|n=>n,fun|9=>9|4=>4|3=>3|n=>n,fun|n=>n⟩
theorem Tryz.ab0:Go.Proofs.Lays.n99 Tryz.prog Tryz.Tg:={
 mixed:=by kernel_rfl
 f99:=Tryz.func149.trans (congrArg some (by kernel_rfl))
 f206:=Tryz.func186.trans (congrArg some (by kernel_rfl))
 t3:=Tryz.underlying3
 a3:=Tryz.isAgg3
 z3:=Tryz.sizeOf3
 v3:=Tryz.zeroValue3
 t4:=Tryz.underlying4
 a4:=Tryz.isAgg4
 z4:=Tryz.sizeOf4
 v4:=Tryz.zeroValue4
 t9:=Tryz.underlying9
 a9:=Tryz.isAgg9
 z9:=Tryz.sizeOf9
 v9:=Tryz.zeroValue9}
open Go.RowKit Go.Lib in
theorem Tryz.strings_HasPrefix(s p:ByteArray)(w:World):
  Calls Tryz.prog 149 #[.string s,.string p] w fun e w'=>e= .returned (.bool (Lib.hasPrefix s.data.toList p.data.toList))/\w'=w:=Any.strings_HasPrefix Tryz.ab0 s p w
def Tryz.PG:Go.Shelf.Ren:=⟨fun|102=>29|209=>61|207=>109|n=>n,fun|9=>9|4=>4|3=>3|n=>n,fun|n=>n⟩
theorem Tryz.ZV:Go.Proofs.Lays.n102 Tryz.prog Tryz.PG:={
 mixed:=by kernel_rfl
 f102:=Tryz.func29.trans (congrArg some (by kernel_rfl))
 f207:=Tryz.func109.trans (congrArg some (by kernel_rfl))
 f209:=Tryz.func61.trans (congrArg some (by kernel_rfl))
 t3:=Tryz.underlying3
 a3:=Tryz.isAgg3
 z3:=Tryz.sizeOf3
 v3:=Tryz.zeroValue3
 t4:=Tryz.underlying4
 a4:=Tryz.isAgg4
 z4:=Tryz.sizeOf4
 v4:=Tryz.zeroValue4
 t9:=Tryz.underlying9
 a9:=Tryz.isAgg9
 z9:=Tryz.sizeOf9
 v9:=Tryz.zeroValue9}
open Go.RowKit Go.Lib in
theorem Tryz.strings_TrimSuffix(s p:ByteArray)(w:World)(hs:s.size<=9223372036854775807):
  Calls Tryz.prog 29 #[.string s,.string p] w fun e w'=>e= .returned (.string ⟨(Lib.trimSuffix s.data.toList p.data.toList).toArray⟩)/\w'=w:=Any.strings_TrimSuffix Tryz.ZV s p w hs
open Go.RowKit Go.Lib in
theorem Tryz.strings_Count_any(s sep:ByteArray)(m:Int)(w:World)(hs:s.size<4294967281)(hm:w.cell? ⟨0,0,none⟩=some (.int .i64 m))(h1:1<=sep.size):
  Calls Tryz.prog 25 #[.string s,.string sep] w fun e w'=>e= .returned (.int .i64 (Lib.countB s sep))/\w'=w:=Any.strings_Count_any Tryz.ZT s sep m w hs hm h1
def Tryz.PD:Go.Shelf.Ren:=⟨fun|146=>54|221=>102|268=>146|138=>25|143=>50|195=>48|197=>180|218=>49|219=>100|260=>219|217=>101|225=>142|224=>143|267=>144|266=>145|314=>179|n=>n,fun|9=>9|31=>37|3=>3|4=>4|0=>0|105=>225|21=>21|5=>5|46=>72|119=>281|139=>284|138=>283|146=>223|51=>222|n=>n,fun|1=>0|3=>3|4=>4|n=>n⟩
theorem Tryz.ZS:Go.Proofs.Lays.n146 Tryz.prog Tryz.PD:={
 mixed:=by kernel_rfl
 f138:=Tryz.func25.trans (congrArg some (by kernel_rfl))
 f143:=Tryz.func50.trans (congrArg some (by kernel_rfl))
 f146:=Tryz.func54.trans (congrArg some (by kernel_rfl))
 f195:=Tryz.func48.trans (congrArg some (by kernel_rfl))
 f197:=Tryz.func180.trans (congrArg some (by kernel_rfl))
 f217:=Tryz.func101.trans (congrArg some (by kernel_rfl))
 f218:=Tryz.func49.trans (congrArg some (by kernel_rfl))
 f219:=Tryz.func100.trans (congrArg some (by kernel_rfl))
 f221:=Tryz.func102.trans (congrArg some (by kernel_rfl))
 f224:=Tryz.func143.trans (congrArg some (by kernel_rfl))
 f225:=Tryz.func142.trans (congrArg some (by kernel_rfl))
 f260:=Tryz.func219.trans (congrArg some (by kernel_rfl))
 f266:=Tryz.func145.trans (congrArg some (by kernel_rfl))
 f267:=Tryz.func144.trans (congrArg some (by kernel_rfl))
 f268:=Tryz.func146.trans (congrArg some (by kernel_rfl))
 f314:=Tryz.func179.trans (congrArg some (by kernel_rfl))
 t0:=Tryz.underlying0
 a0:=Tryz.isAgg0
 z0:=Tryz.sizeOf0
 v0:=Tryz.zeroValue0
 t3:=Tryz.underlying3
 a3:=Tryz.isAgg3
 z3:=Tryz.sizeOf3
 v3:=Tryz.zeroValue3
 t4:=Tryz.underlying4
 a4:=Tryz.isAgg4
 z4:=Tryz.sizeOf4
 v4:=Tryz.zeroValue4
 t5:=Tryz.underlying5
 a5:=Tryz.isAgg5
 z5:=Tryz.sizeOf5
 v5:=Tryz.zeroValue5
 t9:=Tryz.underlying9
 a9:=Tryz.isAgg9
 z9:=Tryz.sizeOf9
 v9:=Tryz.zeroValue9
 t21:=Tryz.underlying21
 a21:=Tryz.isAgg21
 z21:=Tryz.sizeOf21
 v21:=Tryz.zeroValue21
 t31:=Tryz.underlying37
 a31:=Tryz.isAgg37
 z31:=Tryz.sizeOf37
 v31:=Tryz.zeroValue37
 t46:=Tryz.underlying72
 a46:=Tryz.isAgg72
 z46:=Tryz.sizeOf72
 v46:=Tryz.zeroValue72
 t51:=Tryz.underlying222
 a51:=Tryz.isAgg222
 z51:=Tryz.sizeOf222
 v51:=Tryz.zeroValue222
 t105:=Tryz.underlying225
 a105:=Tryz.isAgg225
 z105:=Tryz.sizeOf225
 v105:=Tryz.zeroValue225
 t119:=Tryz.underlying281
 a119:=Tryz.isAgg281
 z119:=Tryz.sizeOf281
 t138:=Tryz.underlying283
 a138:=Tryz.isAgg283
 z138:=Tryz.sizeOf283
 v138:=Tryz.zeroValue283
 t139:=Tryz.underlying284
 a139:=Tryz.isAgg284
 z139:=Tryz.sizeOf284
 v139:=Tryz.zeroValue284
 t146:=Tryz.underlying223
 a146:=Tryz.isAgg223
 z146:=Tryz.sizeOf223
 v146:=Tryz.zeroValue223
 g1:=by kernel_rfl
 g3:=by kernel_rfl
 g4:=by kernel_rfl}
open Go.RowKit Go.Lib in
theorem Tryz.strings_Split(s sep:ByteArray)(m:Int)(w:World)(hs:s.size<4294967281)(hm:w.cell? ⟨0,0,none⟩=some (.int .i64 m))(h1:1<=sep.size):
  Calls Tryz.prog 54 #[.string s,.string sep] w fun e w'=>
   e= .returned (.slice (some ⟨w.heap.size,0,none⟩) (Lib.countB s sep+1) (Lib.countB s sep+1))/\w'=w.alloc (.cells ((Lib.splitB sep 0 (Lib.countB s sep) s).map Value.string).toArray 9):=Any.strings_Split Tryz.ZS (by kernel_rfl) s sep m w hs hm h1
def Tryz.AG:Go.Shelf.Ren:=⟨fun|11=>51|n=>n,fun|24=>37|26=>9|28=>85|0=>0|33=>91|4=>4|n=>n,fun|n=>n⟩
theorem Tryz.Kj:Go.Proofs.SlLaysZ.n11 Tryz.prog Tryz.AG:={
 mixed:=by kernel_rfl
 f11:=⟨Tryz.f51.name,by decide,Tryz.func51.trans (congrArg some (by kernel_rfl))⟩
 t0:=Tryz.underlying0
 a0:=Tryz.isAgg0
 z0:=Tryz.sizeOf0
 v0:=Tryz.zeroValue0
 t24:=Tryz.underlying37
 a24:=Tryz.isAgg37
 z24:=Tryz.sizeOf37
 v24:=Tryz.zeroValue37
 t26:=Tryz.underlying9
 a26:=Tryz.isAgg9
 z26:=Tryz.sizeOf9
 v26:=Tryz.zeroValue9
 t28:=Tryz.underlying85
 a28:=Tryz.isAgg85
 z28:=Tryz.sizeOf85
 v28:=Tryz.zeroValue85
 i26:=by kernel_rfl}
end Go.Proofs
end
noncomputable section
namespace Go.Proofs.YtnhgcpiljggmmaaGreatDoor
section
open Go.TQ Go.Proofs
theorem XO:mm=false:=rfl
theorem ach:∀w,GI w->∃m,w.cell? ⟨0,0,none⟩=some (.int .i64 m):=fun w h=>by
 obtain⟨v,hv,m,rfl⟩:=h.cell (g:=0) (p:=fun v=>∃m:Int,v= .int .i64 m) (by unfold xO;simp)
 exact⟨m,hv⟩
theorem aeP:∀w,GI w->∃tp p,w.cell? ⟨1,0,none⟩=some (.iface tp p):=fun w h=>by
 obtain⟨v,hv,tp,p,rfl⟩:=h.cell (g:=1) (p:=fun v=>∃tp p,v= .iface tp p) (by unfold xO;simp)
 exact⟨tp,p,hv⟩
theorem aeQ:∀w,GI w->∃tp p,w.cell? ⟨2,0,none⟩=some (.iface tp p):=fun w h=>by
 obtain⟨v,hv,tp,p,rfl⟩:=h.cell (g:=2) (p:=fun v=>∃tp p,v= .iface tp p) (by unfold xO;simp)
 exact⟨tp,p,hv⟩
theorem aeO:∀w,GI w->Lib.TabIs Tryz.prog w "internal/strconv.uint64pow10" .u64 Lib.pow10Tab:=fun w h=>by
 have:=h.row (P:=Tryz.prog) (g:=5) (name:= "internal/strconv.uint64pow10") (cs:=(((List.range 20).map fun i=>Value.int .u64 ((10 ^ i:Nat):Int)).toArray)) (by kernel_rfl) (by unfold xO;simp)
 unfold Lib.TabIs Lib.pow10Tab;rw[this,List.map_map];rfl
theorem abY:dk.Sound Tryz.prog (U:=U) (.fn 111 [.ty (Ty.i .i64)] (.one Ty.str) fun a=>zU a.1):=⟨⟨_,Tryz.func111,by kernel_rfl,by kernel_rfl⟩,fun a r h=>XE XO aeO Tryz.strconv_Itoa h⟩
theorem abZ:dk.Sound Tryz.prog (U:=U) (.fn 103 [.ty Ty.str] (.many [(Ty.i .i64),Ty.err]) fun a=>qa a.1):=⟨⟨_,Tryz.func103,by kernel_rfl,by kernel_rfl⟩,fun a r h=>Ya XO aeP aeQ Tryz.strconv_Atoi_ok Tryz.strconv_Atoi_syntax Tryz.strconv_Atoi_range h⟩
theorem ads:dk.Sound Tryz.prog (U:=U) (.fn 59 [.ty (Ty.sl Ty.str),.ty Ty.str] (.one Ty.str) fun a=>zS a.1 a.2.1):=⟨⟨_,Tryz.func59,by kernel_rfl,by kernel_rfl⟩,fun a r h=>XD XO Tryz.strings_Join_none Tryz.strings_Join h⟩
theorem adu:dk.Sound Tryz.prog (U:=U) (.fw 54 [.ty Ty.str,.ty Ty.str] 9 1 Ty.str fun a=>AR a.1 a.2.1):=⟨⟨_,Tryz.func54,by kernel_rfl,by kernel_rfl⟩,fun a r h=>UM ach Tryz.strings_Split h⟩
theorem ady:dk.Sound Tryz.prog (U:=U) (.fn 25 [.ty Ty.str,.ty Ty.str] (.one (Ty.i .i64)) fun a=>Bj a.1 a.2.1):=⟨⟨_,Tryz.func25,by kernel_rfl,by kernel_rfl⟩,fun a r h=>V9 ach Tryz.strings_Count_any h⟩
theorem adx:dk.Sound Tryz.prog (U:=U) (.fn 29 [.ty Ty.str,.ty Ty.str] (.one Ty.str) fun a=>EK a.1 a.2.1):=⟨⟨_,Tryz.func29,by kernel_rfl,by kernel_rfl⟩,fun a r h=>WC Tryz.strings_TrimSuffix h⟩
theorem abX:dk.Sound Tryz.prog (U:=U) (.fn 149 [.ty Ty.str,.ty Ty.str] (.one Ty.bool) fun a=>Cd a.1 a.2.1):=⟨⟨_,Tryz.func149,by kernel_rfl,by kernel_rfl⟩,fun a r h=>Me Tryz.strings_HasPrefix h⟩
theorem adv:dk.Sound Tryz.prog (U:=U) (.fn 53 [.ty Ty.str,.ty (Ty.i .u8)] (.one (Ty.i .i64)) fun a=>uE a.1 a.2.1):=⟨⟨_,Tryz.func53,by kernel_rfl,by kernel_rfl⟩,fun a r h=>Md Tryz.strings_IndexByte h⟩
end
section
open Go.TQ Go.RowKit Go.Proofs
def rZ(c:Nat):Bool:=(decide (97<=c)&&decide (c<=122))||(decide (48<=c)&&decide (c<=57))
def dE(s:ByteArray):Bool:=s.data.toList.all (fun b=>rZ b.toNat)&&decide (1<=s.size)&&decide (s.size<=20)
def Ys(s:ByteArray):Option Bool:=some (dE s)
theorem Kq{s:ByteArray}(h:∀(i:Nat) (hi:i<s.size),rZ (s[i]'hi).toNat=true):dE s=(decide (1<=s.size)&&decide (s.size<=20)):=by
 unfold dE
 have:s.data.toList.all (fun b=>rZ b.toNat)=true:=by
  rw[QH];intro b hb;obtain⟨i,hi,rfl⟩:=List.getElem_of_mem hb;exact h i (by simpa using hi)
 rw[this,Bool.true_and]
theorem Hq{s:ByteArray}{i:Nat}(hi:i<s.size)(h:rZ (s[i]'hi).toNat=false):dE s=false:=by
 unfold dE
 have:s.data.toList.all (fun b=>rZ b.toNat)=false:=by
  rw[List.all_eq_false];exact⟨s[i]'hi,by rw[show s[i]'hi=s.data.toList[i]'(by simpa using hi)from rfl];exact QZ _,by rw[h];simp⟩
 rw[this];rfl
theorem Uk(s:ByteArray)(pos:Nat)(h:pos<s.size):(rZ (Utf8.decode s pos).1=true->rZ (s[pos]'h).toNat=true/\(Utf8.decode s pos).2=1)/\(rZ (Utf8.decode s pos).1=false->rZ (s[pos]'h).toNat=false):=by
 by_cases ha:(s[pos]'h).toNat<128
 ·rw[decode_ascii s pos h ha];exact⟨fun e=>⟨e,rfl⟩,fun e=>e⟩
 ·have h1:=(decode_high s pos h (by omega)).1
  refine⟨fun e=> ?_,fun _=> ?_⟩
  ·simp only[rZ,Qn,Qm,Qi]at e;omega
  ·simp only[rZ,Qq73,Bool.and_eq_false_iff,Qj];omega
set_option maxHeartbeats 4000000 in
set_option maxRecDepth 1000000 in
theorem Uj(s:ByteArray)(w:World):Calls Tryz.prog 31 #[.string s] w fun e w'=>e= .returned (.bool (dE s))/\Below w.heap.size w w':=by
 go_enter Tryz.func31,Tryz.ntmps31
 go_wp2
 go_loopw [] (fun wr=>∃pos:Nat,wr.heap[w.heap.size]?=some (.stringIter s pos)/\Below w.heap.size w wr/\∀(i:Nat) (hi:i<s.size),i<pos->rZ (s[i]'hi).toNat=true) (fun wr=>s.size - wr.iterPos w.heap.size)
 case atStart=>
  refine⟨0,?_,(Below.refl _ w).alloc (QI _) _,fun i hi h=>by omega⟩
  have:=World.iter_heap w s 0;simpa using this
 case round=>
  obtain⟨pos,hit,hbw,hall⟩:=hrel;have hsz:w.heap.size<wr.heap.size:=(Q8.1 hit).1
  by_cases hp:pos<s.size
  ·have hnx:∀ty,(Instr.next (.pointer (some ⟨w.heap.size,0,none⟩)) true ty).run Tryz.prog wr=_:=fun ty=>Lib.run_next_any_at wr w.heap.size s pos ty hit hp
   generalize hd:Utf8.decode s pos=d at hnx;obtain⟨c,wd⟩:=d;have hd1:(Utf8.decode s pos).1=c:=by rw[hd]
   have hd2:(Utf8.decode s pos).2=wd:=by rw[hd]
   have hw:=Uk s pos hp;rw[hd1,hd2]at hw;clear hd hd1 hd2
   go_wp2
   all_goals first
    |(have hc:rZ c=false:=(by simp only[rZ,Qq73,Bool.and_eq_false_iff,Qj];omega);go_ret;exact⟨by rw[Hq hp (hw.2 hc)];rfl,Lib.below_iterAt hbw (QI _) s _⟩)
    |(
      have hc:rZ c=true:=(by simp only[rZ,Qn,Qm,Qi];omega)
      obtain⟨h1,rfl⟩:=hw.1 hc;have hm:=Lib.iterAt_heap wr w.heap.size s pos (pos+1) hit;refine⟨⟨pos+1,hm,Lib.below_iterAt hbw (QI _) s _,fun i hi hl=> ?_⟩,?_⟩
      ·rcases Nat.lt_or_ge i pos with h|h
       ·exact hall i hi h
       ·obtain rfl:i=pos:=by omega
        exact h1
      ·simp only[World.iterPos,hm,hit]
       omega)
  ·have hnx:∀ty,(Instr.next (.pointer (some ⟨w.heap.size,0,none⟩)) true ty).run Tryz.prog wr=_:=fun ty=>Lib.run_next_end_at wr w.heap.size s pos ty hit hp
   have hok:=Kq (s:=s) fun i hi=>hall i hi (by omega)
   go_wp2
   all_goals (go_ret;refine⟨?_,hbw⟩;try rw[hok])
   all_goals first
    |(have e:(decide (1<=s.size)&&decide (s.size<=20))=false:=(by rw[Qh (by omega),Bool.false_and]);rw[e];rfl)
    |(have e:(decide (1<=s.size)&&decide (s.size<=20))=decide ((s.size:Int)<=20):=by
       rw[Qg (show 1<=s.size by omega),Bool.true_and]
       exact decide_eq_decide.2 (by omega)
      rw[e]
      rfl)
theorem adw:dk.Sound Tryz.prog (U:=U) (.fn 31 [.ty Ty.str] (.one Ty.bool) fun a=>Ys a.1):=by
 refine⟨⟨_,Tryz.func31,by kernel_rfl,by kernel_rfl⟩,fun a r h=> ?_⟩
 injection h with h
 subst h;refine xf (args:=[.str a.1]) (r:= .bool (dE a.1)) fun w X vs hG hv=> ?_
 obtain⟨v,rfl,hv1⟩:=Bu hv;obtain rfl:=dH hv1;refine(Uj a.1 w).mono ?_;rintro e w' ⟨rfl,hb⟩;exact⟨⟨_,rfl,fun M=> .bool _⟩,tC rfl hb⟩
end
section
open Go.TQ Go.RowKit Go.Proofs
structure Jf (M:Nat->Prop) (b c:Nat) (w0 w:World) (cs ds:List PV) (us vs:List Value) (T U:TypeId):Prop where
 x:qR w M
 hb:w.heap[b]?=some (.cells us.toArray T (0,0))
 hc:w.heap[c]?=some (.cells vs.toArray U (0,0))
 rb:aR w M dm cs us
 rc:aR w M dm ds vs
 fr:Wu b c w0 w
theorem Ku{M:Nat->Prop}{b c:Nat}{w w':World}(h1:M b)(h2:M c)(h:∀k,k<w.heap.size->k≠b->k≠c->w'.heap[k]?=w.heap[k]?):dj w w' M M:=
 ⟨fun a v ha hm=>⟨(World.cell?_of_block (h _ (World.block_lt_of_cell? w a ha) (fun e=>hm (by rw[e];exact h1)) (fun e=>hm (by rw[e];exact h2)))).trans ha,hm⟩,
  fun k es ck hk hm=>⟨(h k (Q8.1 hk).1 (fun e=>hm (by rw[e];exact h1)) (fun e=>hm (by rw[e];exact h2))).trans hk,hm⟩⟩
theorem P7{M:Nat->Prop}{b c:Nat}{w w':World}(hX:qR w M)(h1:M b)(h2:M c)(hs:w.heap.size<=w'.heap.size)(h:∀k,k<w.heap.size->k≠b->k≠c->w'.heap[k]?=w.heap[k]?):qR w' M:=
 ⟨fun k hk=>QJ (hX.lt k hk) hs,hX.ng,hX.gi.gP fun k hk=>h k (hX.gi.lt hk) (fun e=>hX.ng b h1 (by rw[<-e];exact hk)) (fun e=>hX.ng c h2 (by rw[<-e];exact hk))⟩
theorem Lc{b c:Nat}{w0 w w':World}(h:Wu b c w0 w)(k:Wu b c w w'):Wu b c w0 w':=
 ⟨k.os.trans h.os,k.tape.trans h.tape,k.output.trans h.output,QK h.size k.size,fun i hi h1 h2=>(k.block i (QJ hi h.size) h1 h2).trans (h.block i hi h1 h2),h.drawn.trans k.drawn⟩
theorem Jf.call{P:Program}{f:FuncId}{M:Nat->Prop}{b c:Nat}{w0 w:World}{cs ds cs':List PV}{us vs:List Value}{T U:TypeId}{r:PV}(h:Jf M b c w0 w cs ds us vs T U)(h1:M b)(h2:M c)(hbc:b≠c)
  (hf:wX P f 0 true cs [] r cs'):Calls P f #[.pointer (some ⟨b,0,none⟩)] w fun e w'=>∃v us' T',e= .returned v/\aW w' M dm r v/\Jf M b c w0 w' cs' ds us' vs T' U:=by
 have hst:dj w w M (Mc true b M):=dj.of fun q hq=>by
  rintro(⟨_,rfl⟩|h)
  ·exact hq h1
  ·exact hq h
 have hst':∀w,dj w w (Mc true b M) M:=fun w=>dj.of fun q hq hm=>hq (.inr hm)
 refine(hf w M h.x b T us [] (fun _=>⟨h.hb,h.rb.mono hst (Gh.le.refl _),h.x.ng b h1⟩) aR.nil).mono ?_
 rintro e w' ⟨v,us',rfl,hr,hc,hfr⟩;obtain⟨⟨T',hb'⟩,hr'⟩:=hc rfl;have hblk:∀k,k<w.heap.size->k≠b->k≠c->w'.heap[k]?=w.heap[k]?:=fun k hk hkb _=>hfr.block k hk (by simp;exact fun e=>hkb e.symm)
 exact⟨v,us',T',rfl,hr.mono (hst' w') (Gh.le.refl _),P7 h.x h1 h2 hfr.size hblk,hb',(hfr.block c (h.x.lt c h2) (by simp;exact hbc)).trans h.hc,hr'.mono (hst' w') (Gh.le.refl _),h.rc.mono (Ku h1 h2 hblk) (Gh.le.refl _),
  Lc h.fr ⟨hfr.os,hfr.tape,hfr.output,hfr.size,hblk,hfr.drawn⟩⟩
theorem WZ{w:World}{M:Nat->Prop}{G:Gh}{cs:List PV}{vs:List Value}(h:aR w M G cs vs)(i:Nat){x:PV}{v:Value}(hx:aW w M G x v):aR w M G (cs.set i x) (vs.set i v):=by
 refine⟨by rw[QX,QX];exact h.1,fun j y u hy hu=> ?_⟩
 rw[List.getElem?_set]at hy hu;split at hy
 ·rename_i hij;rw[Qr hij]at hu;split at hy
  ·injection hy with hy
   split at hu
   ·injection hu with hu
    rw[<-hy,<-hu];exact hx
   ·cases hu
  ·cases hy
 ·rename_i hij;rw[Qs hij]at hu;exact h.2 j y u hy hu
theorem Jf.store{M:Nat->Prop}{b c:Nat}{w0 w:World}{cs ds:List PV}{us vs:List Value}{T U:TypeId}(h:Jf M b c w0 w cs ds us vs T U)(h1:M b)(h2:M c)(hbc:b≠c)
  {i:Nat} (hi:i<vs.length) {x:PV} {v:Value} (hx:∀w,aW w M dm x v):Jf M b c w0 (w.setCell ⟨c,i,none⟩ v) cs (ds.set i x) us (vs.set i v) T U:=by
 have hlt:c<w.heap.size:=h.x.lt c h2;have hblk:∀k,k<w.heap.size->k≠b->k≠c->(w.setCell ⟨c,i,none⟩ v).heap[k]?=w.heap[k]?:=fun k _ _ hk=>Below.heap_setCell _ _ _ k hk
 have hsz:(w.setCell ⟨c,i,none⟩ v).heap.size=w.heap.size:=by simp[World.setCell]
 have hnew:(w.setCell ⟨c,i,none⟩ v).heap[c]?=some (.cells (vs.set i v).toArray U (0,0)):=by
  unfold World.setCell;simp only;rw[Array.getElem?_modify,Qr rfl,h.hc];simp
 have hs:=Ku (w:=w) (w':=w.setCell ⟨c,i,none⟩ v) h1 h2 hblk
 exact⟨P7 h.x h1 h2 (by rw[hsz];exact QI _) hblk,(Below.heap_setCell _ _ _ b (fun e=>hbc e)).trans h.hb,hnew,h.rb.mono hs (Gh.le.refl _),WZ (h.rc.mono hs (Gh.le.refl _)) i (hx _),
  Lc h.fr ⟨rfl,rfl,rfl,by rw[hsz];exact QI _,hblk,DL.of (by simp[World.setCell])⟩⟩
theorem Jf.Fm{M:Nat->Prop}{b c:Nat}{w0 w:World}{cs ds:List PV}{us vs:List Value}{T U:TypeId}(h:Jf M b c w0 w cs ds us vs T U){i:Nat}(hi:i<vs.length):w.cell? ⟨c,i,none⟩=some vs[i]/\w.frozen? ⟨c,i,none⟩=false:=by
 constructor
 ·unfold World.cell?;simp only;rw[h.hc];simp[hi]
 ·unfold World.frozen?;simp only;rw[h.hc];simp
set_option maxHeartbeats 2000000 in
set_option maxRecDepth 1000000 in
theorem Pe{cs c1 c2 c3 ds:List PV}{n1 n2:Int}{s3:ByteArray}(hN1:wX Tryz.prog 57 0 true cs [] (.int .i64 n1) c1)(hN2:wX Tryz.prog 57 0 true c1 [] (.int .i64 n2) c2)(hW:wX Tryz.prog 55 0 true c2 [] (.str s3) c3)(hl:5<ds.length):
  Ug Tryz.prog 56 cs ds c3 (((ds.set 1 (.int .i64 n1)).set 3 (.int .i64 n2)).set 5 (.str s3)):=by
 intro w M b c T U us vs hX h1 h2 hbc hb hc hr1 hr2;have K0:Jf M b c w w cs ds us vs T U:=⟨hX,hb,hc,hr1,hr2,⟨rfl,rfl,rfl,QI _,fun _ _ _ _=>rfl,DL.refl _⟩⟩
 have hlv:5<vs.length:=by rw[hr2.1];exact hl
 go_enter Tryz.func56,Tryz.ntmps56
 go_wp2_with (go_at_call 57;refine(K0.call h1 h2 hbc hN1).mono ?_)
 rintro e W1 ⟨v1,us1,T1,rfl,hv1,K1⟩;obtain rfl:=eC hv1;have C1:=(K1.Fm (i:=1) (by omega)).1
 have F1:=(K1.Fm (i:=1) (by omega)).2
 have K1':=K1.store h1 h2 hbc (i:=1) (by omega) (x:= .int .i64 n1) (v:= .int .i64 n1) fun _=> .int _ _
 go_wp2_with (go_at_call 57;refine(K1'.call h1 h2 hbc hN2).mono ?_)
 rintro e W2 ⟨v2,us2,T2,rfl,hv2,K2⟩;obtain rfl:=eC hv2;have C2:=(K2.Fm (i:=3) (by simp;omega)).1
 have F2:=(K2.Fm (i:=3) (by simp;omega)).2
 have K2':=K2.store h1 h2 hbc (i:=3) (by simp;omega) (x:= .int .i64 n2) (v:= .int .i64 n2) fun _=> .int _ _
 go_wp2_with (go_at_call 55;refine(K2'.call h1 h2 hbc hW).mono ?_)
 rintro e W3 ⟨v3,us3,T3,rfl,hv3,K3⟩;obtain rfl:=dH hv3;have C3:=(K3.Fm (i:=5) (by simp;omega)).1
 have F3:=(K3.Fm (i:=5) (by simp;omega)).2
 have K3':=K3.store h1 h2 hbc (i:=5) (by simp;omega) (x:= .str s3) (v:= .string s3) fun _=> .str _
 go_wp2
 go_end0
 exact⟨_,_,_,_,rfl,K3'.hb,K3'.hc,K3'.rb,K3'.rc,K3'.fr⟩
def xY(N:bl->Option (Int×bl))(W:bl->Option (ByteArray×bl))(s:bl)(t:aI):Option (bl×aI):=
 (N s).bind fun p=>(N p.2).bind fun q=>(W q.2).bind fun v=>some (v.2,{t with aq:=p.1,aE:=q.1,Value:=v.1})
theorem adt{N:bl->Option (Int×bl)}{W:bl->Option (ByteArray×bl)}(hN:dk.Sound Tryz.prog (U:=U) (.rc 57 0 (Ty.st .dC) [] (.one (Ty.i .i64)) fun s a=>N s))(hW:dk.Sound Tryz.prog (U:=U) (.rc 55 0 (Ty.st .dC) [] (.one Ty.str) fun s a=>W s)):
  dk.Sound Tryz.prog (U:=U) (.r2 56 (Ty.st .dC) (Ty.st .Step) fun s t=>xY N W s t):=by
 refine⟨⟨_,Tryz.func56,by kernel_rfl,by kernel_rfl⟩,fun s t s' t' h=> ?_⟩
 have h:xY N W s t=some (s',t'):=h;unfold xY at h;obtain⟨p,hp,h⟩:=Qc.1 h;obtain⟨q,hq,h⟩:=Qc.1 h;obtain⟨v,hv,h⟩:=Qc.1 h;injection h with h
 injection h with h3 h4
 subst h3 h4;exact Pe (hN.2 s () p.1 p.2 hp) (hN.2 p.2 () q.1 q.2 hq) (hW.2 q.2 () v.1 v.2 hv) (by show 5<(jS t).length;unfold jS;simp)
end
section
open Go.TQ Go.RowKit Go.Proofs
theorem Tryz.writeString(B b:Nat)(bs:List Value)(s:ByteArray)(w:World)(h:Lib.IsBuilderF 76 5 B b bs w)(hlen:bs.length+s.size<=140737488355328)(hBw:B<=w.heap.size):
  Calls Tryz.prog 23 #[.pointer (some ⟨b,0,none⟩),.string s] w fun e w'=>e= .returned (.tuple #[.int .i64 s.size,.nilIface])/\(Lib.BuilderAtF 76 5 B b (.pointer (some ⟨b,0,none⟩)) (bs++Lib.strCells s) w'/\Below B w w'/\Lib.OthersKept 5 (some b) w w'):=
 Any.Builder_WriteString_k (P:=Tryz.prog) (ρ:=Tryz.Ap) {Tryz.JJ with} Tryz.sy B b bs s w h hlen hBw
def zZ(F:aI->Option (ByteArray×Bool×Unit)):List aI->List UInt8->Option (List UInt8×Bool)
 |[],acc=>some (acc,true)
 |t::l,acc=>(F t).bind fun r=>bif r.2.1 then(if acc.length+r.1.size+1<=140737488355328 then zZ F l (acc++(r.1.data.toList++[10]))else none)else some (acc,false)
theorem adR{w:World}{X:Nat->Prop}{es:List (List PV)}{p:Option Addr}{n c:Nat}(h:aW w X dm (.sl es) (.slice p n c)){i:Nat}{e:List PV}(hi:es[i]?=some e)(h34:∀e∈es,e.length=34)(h1:∀y∈e,y.one=true):
  ∃(a:Addr) (vs:List Value),p=some a/\vs.length=34/\(∀v∈vs,v.oneCell'=true)/\aR w X dm e vs/\a.block<w.heap.size/\¬X a.block/\∀W,W.heap[a.block]?=w.heap[a.block]?->(loadVar 51 (a.add (i*34))).run Tryz.prog W= .ok (.agg vs.toArray) W:=by
 rcases h.yo with⟨_,h0⟩|⟨ad,c',k,us,hv,hk,hr,hc,_,_⟩
 ·rw[h0]at hi;cases hi
 ·injection hv with hp _ _
  have hm:=Q7 hi;have hk34:k=34:=by rw[<-hk e hm,h34 e hm]
  subst hk34;have he34:=h34 e hm
  have hsub:aR w X dm e ((us.drop (i*34)).take 34):=by
   have h2:=(hr.drop (i*34)).take 34
   have h3:(es.flatten.drop (i*34)).take 34=e:=by
    apply List.ext_getElem?;intro j;rw[Qq67];split
    ·rename_i hj;rw[List.getElem?_drop,rL es 34 i e hk hi j hj]
    ·rw[Qq71 (by omega)]
   rw[h3]at h2;exact h2
  have hcell:∀(j:Nat) (v:Value),((us.drop (i*34)).take 34)[j]?=some v->w.cell? ((ad.add (i*34)).add j)=some v/\¬X ad.block:=fun j v hv=>by
   rw[Qq67]at hv;split at hv
   ·rw[List.getElem?_drop]at hv;rw[Addr.add_add];exact hc _ v hv
   ·cases hv
  have hl:((us.drop (i*34)).take 34).length=34:=by rw[hsub.1,he34]
  have h0:=hcell 0 _ (Qv (by omega))
  have hblk:((ad.add (i*34)).add 0).block=ad.block:=by rw[qP,qP]
  have hlt:ad.block<w.heap.size:=by
   have:=World.block_lt_of_cell? w _ h0.1
   rwa [hblk]at this
  refine⟨ad,(us.drop (i*34)).take 34,hp,hl,fun v hv=> ?_,hsub,hlt,h0.2,fun W hW=> ?_⟩
  ·obtain⟨j,hj,rfl⟩:=List.getElem_of_mem hv;have hj':j<e.length:=by rw[<-hsub.1];exact hj
   exact((hsub.2 j e[j] _ (Qv hj') (Qv hj)).one (h1 _ (QZ hj'))).1
  ·refine Gd (n:=34) (by kernel_rfl) hl fun j v hv=> ?_
   rw[World.cell?_of_block (w:=w) (w':=W) (by rw[qP,qP];exact hW)]
   exact(hcell j v hv).1
theorem Kp{P:Program}{ops:Array Oper}{rest:List Oper}{o:Oper}{a:Act}{w:World}{Q:Exit->Act->World->Prop}(hgd:o.guard=none)(ty:TypeId)(x:Operand)(ho:o.op= .load ty x)
  (ad:Addr) (v:Value) (hx:a.eval x= .pointer (some ad)) (hr:(loadVar ty ad).run P w= .ok v w) (h:wpList P ops Q rest (a.put o.dst v) w):wpList P ops Q (o::rest) a w:=
 wpList_plain hgd fun K hK=>by
  unfold Oper.wp execOp;simp only[ho,hx,Instr.loadAt,Instr.sureAddr,Sem.run_bind,Sem.run_pure,Result.andThen_ok,hr];exact hK _ _ h
theorem Ew{T e B b:Nat}{bs:List Value}{w w':World}(h:Lib.IsBuilderF T e B b bs w)(hk:∀k,k<w.heap.size->w'.heap[k]?=w.heap[k]?):Lib.IsBuilderF T e B b bs w':=by
 have one:∀p,Lib.BuilderAtF T e B b p bs w->Lib.BuilderAtF T e B b p bs w':=by
  rintro p ⟨h1,v,h2,h3,h4⟩;refine⟨h1,v,(hk b (Q8.1 h2).1).trans h2,⟨h3.1,?_⟩,h4⟩;rcases h3.2 with h5|⟨g,cap,cur,fz,e1,e2,e3,e4⟩
  ·exact .inl h5
  ·exact .inr ⟨g,cap,cur,fz,e1,e2,(hk g (Q8.1 e3).1).trans e3,e4⟩
 exact h.elim (fun x=> .inl (one _ x)) (fun x=> .inr (one _ x))
theorem WH(t:aI):∀y∈jS t,y.one=true:=by
 intro y hy;simp only[jS,QA,QR,or_false]at hy;rcases hy with h|h|h|h|h|h|h|h|h|h|h|h|h|h|h|h|h|h|h|h|h|h|h|h|h|h|h|h|h|h|h|h|h|h<;>(subst h;rfl)
theorem Ze(w:World)(Z cs:Array Value)(T:TypeId):((w.alloc (.cells Z T)).setRow w.heap.size cs).heap[w.heap.size]?=some (.cells cs T (0,0))/\Below w.heap.size w ((w.alloc (.cells Z T)).setRow w.heap.size cs):=by
 constructor
 ·unfold World.setRow;simp only;rw[Array.getElem?_modify,Qr rfl,World.alloc_heap_new];rfl
 ·refine⟨rfl,rfl,rfl,by simp[World.setRow],fun k hk=> ?_⟩
  unfold World.setRow;simp only;rw[Array.getElem?_modify,Qs (by omega)]
  exact Below.heap_alloc w _ k hk
def Mj:Array Value:=#[Value.int IntKind.i64 0,Value.int IntKind.i64 0,Value.int IntKind.i64 0,Value.int IntKind.i64 0,Value.int IntKind.i64 0,Value.string {data:=#[]},Value.int IntKind.i64 0,Value.slice none 0 0,Value.slice none 0 0,Value.int IntKind.i64 0,Value.int IntKind.i64 0,Value.int IntKind.i64 0,Value.int IntKind.i64 0,Value.int IntKind.i64 0,Value.slice none 0 0,Value.slice none 0 0,Value.slice none 0 0,Value.slice none 0 0,Value.int IntKind.i64 0,Value.int IntKind.i64 0,Value.int IntKind.i64 0,Value.int IntKind.i64 0,Value.slice none 0 0,Value.slice none 0 0,Value.int IntKind.i64 0,Value.int IntKind.i64 0,Value.string {data:=#[]},Value.int IntKind.i64 0,Value.string {data:=#[]},Value.int IntKind.i64 0,Value.string {data:=#[]},Value.int IntKind.i64 0,Value.int IntKind.i64 0,Value.slice none 0 0]
theorem Ph{w:World}{M:Nat->Prop}{G:Gh}{s:ByteArray}{b:Bool}{v:Value}(h:aW w M G (.cX [.str s,.bool b]) v):v= .tuple #[.string s,.bool b]:=by
 cases h with
 |cX cs vs hl h=>
  match vs,hl,h with
  |[x,y],_,h=>
   have h1:=dH (h 0 _ _ rfl rfl);have h2:=h 1 _ _ rfl rfl;cases h2;rw[h1]
set_option maxHeartbeats 2000000 in
set_option maxRecDepth 1000000 in
theorem XM{F:aI->Option (ByteArray×Bool×Unit)}(hF:∀t r,F t=some r->Bw Tryz.prog 16 false [] [.agg (jS t)] (.cX [.str r.1,.bool r.2.1]) [])(l:List aI)(res:List UInt8×Bool)(hres:zZ F l []=some res)(hlen:l.length<=300)
  (w:World) (X:Nat->Prop) (hX:qR w X) (p:Option Addr) (c:Nat) (hv:aW w X dm (.sl (l.map jS)) (.slice p l.length c)):
  Calls Tryz.prog 10 #[.slice p l.length c] w fun e w'=>e= .returned (.tuple (if res.2 then #[.string ⟨res.1.toArray⟩,.int .i64 0]else #[.string ⟨#[]⟩,.int .i64 63]))/\Below w.heap.size w w':=by
 go_enter Tryz.func10,Tryz.ntmps10
 go_wp2
 go_loopw [14] (fun vi wr=>∃(i:Nat) (acc:List UInt8),vi= .int .i64 i/\i<=l.length/\Lib.IsBuilderF 76 5 w.heap.size w.heap.size (Lib.byteCells acc) wr/\Below w.heap.size w wr/\zZ F (l.drop i) acc=some res) (fun vi _=>l.length - (Lib.intOf vi).toNat)
 case atStart=>
  exact⟨0,[],rfl,QS _,Lib.IsBuilderF.of (Lib.fresh_isBuilder 76 5 w),(Below.refl _ w).alloc (QI _) _,hres⟩
 case round=>
  obtain⟨i,acc,rfl,hil,hI,hbw,hacc⟩:=hrel
  by_cases hi:i<l.length
  ·obtain⟨t,ht⟩:∃t,l[i]?=some t:=⟨l[i],Qv hi⟩
   obtain⟨a,vs,rfl,hvl,hv1,hvr,hab,hax,hld⟩:=adR hv (i:=i) (e:=jS t) (by rw[QT,ht];rfl) (fun e he=>by
    obtain⟨t,_,rfl⟩:=QP.1 he
    rfl) (WH t)
   have hL1:=hld wr (hbw.block _ hab);have hi51:(Tryz.prog.info? 51).map (·.size)=some vs.toArray.size:=by rw[List.size_toArray,hvl];kernel_rfl
   have hone:vs.toArray.all (·.oneCell')=true:=by simpa using hv1
   have hszb:w.heap.size<wr.heap.size:=by
    rcases hI with h|h<;>exact(Q8.1 h.2.choose_spec.1).1
   rw[QM hi,show l[i]=t from by rw[Qv hi]at ht;injection ht]at hacc
   obtain⟨r,hr,hacc⟩:=Qc.1 hacc;have hold:Mj.size=vs.toArray.size:=by rw[show vs.toArray.size=34 by rw[List.size_toArray,hvl]];rfl
   obtain⟨s,b,u⟩:=r;simp only at hacc
   go_wp2_with (first
    |(refine Kp rfl 51 _ rfl _ _ rfl hL1 ?_;clear hL1)
    |(refine wpList_store_row rfl 51 _ _ rfl ?_ ?_ ?_ ?_ ?_ ?_ ?_ ?_ ?_ ?_ ?_;exact wr.heap.size;exact vs.toArray;exact rfl;exact rfl;exact 51;exact Mj;exact World.alloc_heap_new wr _;exact hi51;exact hold;exact hone;obtain⟨hW1,hW2⟩:=Ze wr Mj vs.toArray 51;unfold Mj at hW1 hW2;revert hW1 hW2;generalize ((wr.alloc _).setRow wr.heap.size vs.toArray)=W2;intro hW1 hW2;have hL2:(loadVar 51 ⟨wr.heap.size,0,none⟩).run Tryz.prog W2= .ok (.agg vs.toArray) W2:=run_loadVar_row W2 wr.heap.size 51 51 vs.toArray (0,0) _ hW1 Tryz.underlying51 rfl hi51)
    |(refine Kp rfl 51 _ rfl _ _ rfl hL2 ?_;clear hL2))
   have hb2:Below w.heap.size w W2:=hbw.trans (hW2.mono hbw.size);have hX2:qR W2 X:=⟨fun k hk=>QJ (hX.lt k hk) hb2.size,hX.ng,hX.gi.gP fun k hk=>hb2.block k (hX.gi.lt hk)⟩
   have hst:dj w W2 X (Mc false 0 X):=⟨fun a v ha hm=>⟨(World.cell?_of_block (hb2.block _ (World.block_lt_of_cell? w a ha))).trans ha,fun h=>by
     rcases h with⟨h,_⟩|h
     ·cases h
     ·exact hm h⟩,fun k es ck hk hm=>⟨(hb2.block k (Q8.1 hk).1).trans hk,fun h=>by
     rcases h with⟨h,_⟩|h
     ·cases h
     ·exact hm h⟩⟩
   have hargs:aR W2 (Mc false 0 X) dm [.agg (jS t)] [.agg vs.toArray]:=by
    refine aR.cons ?_ aR.nil;have:=hvr.mono hst (Gh.le.refl _);exact .agg _ _ this.1 this.2
   refine(show Calls Tryz.prog 16 #[Value.agg vs.toArray] W2 _ from hF t (s,b,u) hr W2 X hX2 0 0 [] [.agg vs.toArray] (fun e=>by cases e) hargs).mono ?_
   rintro e W3 ⟨v,_,rfl,hrv,_,hf3⟩;obtain rfl:=Ph hrv;have hb3:Below w.heap.size w W3:=hb2.trans ⟨hf3.os,hf3.tape,hf3.output,hf3.size,fun k hk=>hf3.block k (QJ hk hb2.size) (by simp)⟩
   have hI3:Lib.IsBuilderF 76 5 w.heap.size w.heap.size (Lib.byteCells acc) W3:=Ew (Ew hI hW2.block) fun k hk=>hf3.block k hk (by simp)
   cases b with
   |false=>
    injection hacc with hacc
    subst hacc
    go_wp2
    go_ret2
    exact⟨rfl,hb3⟩
   |true=>
    simp only[Qk]at hacc;split at hacc
    ·rename_i hsz
     go_wp2_with (go_at_call 23;refine(Tryz.writeString w.heap.size w.heap.size _ _ W3 hI3 ?_ hb3.size).mono ?_)
     ·rw[Lib.byteCells_length,ByteArray.size_append];exact hsz
     ·rintro e W4 ⟨rfl,h1,b1,k1⟩
      go_wp2
      go_roundw
      case rel=>
       refine⟨i+1,acc++(s.data.toList++[10]),?_,by omega,Or.inr ?_,hb3.trans b1,hacc⟩
       ·rfl
       ·rw[Lib.byteCells_append];exact h1
      case measure=>
       show l.length - (↑i+1:Int).toNat<l.length - (↑i:Int).toNat;omega
    ·cases hacc
  ·go_wp2_with (go_at_call 24;refine(Tryz.Builder_String_any_k w.heap.size w.heap.size acc wr hI hbw.size).mono ?_)
   rintro e W1 ⟨rfl,_,b1,_⟩;rw[List.drop_eq_nil_of_le (by omega)]at hacc
   injection hacc with hacc
   subst hacc
   go_wp2
   go_ret2
   exact⟨rfl,hbw.trans b1⟩
theorem VV(p:Option Addr)(n c:Nat)(h:300<n)(w:World):Calls Tryz.prog 10 #[.slice p n c] w fun e w'=>e= .returned (.tuple #[.string ⟨#[]⟩,.int .i64 3])/\w'=w:=by
 go_enter Tryz.func10,Tryz.ntmps10
 go_wp2
 go_ret2
 exact⟨rfl,rfl⟩
def yg(F:aI->Option (ByteArray×Bool×Unit))(l:List aI):Option (ByteArray×Int×Unit):=
 if 300<l.length then some (⟨#[]⟩,3,())else(zZ F l []).map fun r=>bif r.2 then(⟨r.1.toArray⟩,0,())else(⟨#[]⟩,63,())
theorem BH{w:World}{M:Nat->Prop}{G:Gh}{s:ByteArray}{n:Int}:aW w M G (.cX [.str s,.int .i64 n]) (.tuple #[.string s,.int .i64 n]):=by
 refine .cX _ [.string s,.int .i64 n] rfl fun i x v h1 h2=> ?_
 match i,h1,h2 with
 |0,h1,h2=>injection h1 with h1;injection h2 with h2;subst h1 h2;exact .str _
 |1,h1,h2=>injection h1 with h1;injection h2 with h2;subst h1 h2;exact .int _ _
theorem aah{F:aI->Option (ByteArray×Bool×Unit)}(hC:∀t r,F t=some r->Bw Tryz.prog 16 false [] [.agg (jS t)] (.cX [.str r.1,.bool r.2.1]) [])(l:List aI)(r:ByteArray×Int×Unit)(h:yg F l=some r):
  Bw Tryz.prog 10 false [] [.sl (l.map jS)] (.cX [.str r.1,.int .i64 r.2.1]) []:=by
 unfold yg at h
 have hsl:∀{w:World} {X:Nat->Prop} {v:Value},aW w X dm (.sl (l.map jS)) v->∃p c,v= .slice p l.length c:=fun{w X v} hv=>by
  rcases hv.yo with⟨rfl,h0⟩|⟨ad,c,k,us,rfl,_⟩
  ·rw[List.map_eq_nil_iff]at h0;exact⟨none,0,by rw[h0];rfl⟩
  ·exact⟨some ad,c,by rw[QC]⟩
 intro w X hX rb T rvs vs _ hv;obtain⟨v,rfl,hv1⟩:=Bu hv;have hv1:aW w X dm (.sl (l.map jS)) v:=hv1.mono (dj.of fun q hq h=>hq (.inr h)) (Gh.le.refl _)
 obtain⟨p,c,rfl⟩:=hsl hv1;split at h
 ·rename_i hn;injection h with h
  subst h;refine(VV p l.length c hn w).mono ?_;rintro e w' ⟨rfl,rfl⟩;exact⟨_,[],rfl,BH,fun e=>(by cases e),Fr.refl _ _⟩
 ·rename_i hn;obtain⟨res,hres,h⟩:=Qb.1 h;subst h;refine(XM hC l res hres (by omega) w X hX p c hv1).mono ?_
  rintro e w' ⟨rfl,hb⟩;obtain⟨acc,b⟩:=res;cases b
  ·exact⟨_,[],rfl,BH,fun e=>(by cases e),tC rfl hb⟩
  ·exact⟨_,[],rfl,BH,fun e=>(by cases e),tC rfl hb⟩
theorem adz{F:aI->Option (ByteArray×Bool×Unit)}(hF:dk.Sound Tryz.prog (U:=U) (.fn 16 [.ty (Ty.st .Step)] (.many [Ty.str,Ty.bool]) fun a=>F a.1)):
  dk.Sound Tryz.prog (U:=U) (.fn 10 [.ty (Ty.sl (Ty.st .Step))] (.many [Ty.str,(Ty.i .i64)]) fun a=>yg F a.1):=
 ⟨⟨_,Tryz.func10,by kernel_rfl,by kernel_rfl⟩,fun a r h=>aah (fun t r h=>hF.2 (t,()) r h) a.1 r h⟩
end
end Go.Proofs.YtnhgcpiljggmmaaGreatDoor
end
noncomputable section
namespace Go.Proofs
open Go.RowKit Go.Maps Go.Sort Go.Shelf
variable {P : Program} {ρ : Ren}
set_option maxRecDepth 100000 in
set_option maxHeartbeats 2000000 in
theorem TW(L:SlLaysZ.n11 P ρ)(F:Fence)(n:Nat)(h11:F.fn (ρ.f 11))(hro:F.round=none)(hn:2<=n)(g:Nat)(lb:Array Value)(hFg:F.fn g)(eg:∀args w,(callFunc g args).run P w= .ok (.enter g args) w)(w:World)
  (S:World->List (List UInt8)->Prop)
  (hseq:∀(fn:FuncId) (hfn:F.fn fn) (Bs l D:Nat) (W:World),w.heap.size<=Bs->w.heap.size<=l->w.heap.size<=D->Bs≠l->D≠l->D≠Bs->AnyZ.ApAt ρ w fn (.func (.func g) #[] lb) Bs l D [] W->
   CallsIn F (n - 1) P g (#[.func (.yield l) #[] #[]]++lb) W fun e W'=>(∃v,e= .returned v)/\∃w2 ss,w2.heap.size=w.heap.size/\S w2 ss/\AnyZ.ApAt ρ w2 fn (.func (.func g) #[] lb) Bs l D ss W'):
  CallsIn F n P (ρ.f 11) #[.slice none 0 0,.func (.func g) #[] lb] w fun e w'=>∃(v:Value) (w2:World) (ss:List (List UInt8)),e= .returned v/\w2.heap.size=w.heap.size/\S w2 ss/\w'.ownsRow w2.heap.size (ρ.t 26) 1 v ss.length (ss.map encStr)/\Below w2.heap.size w2 w':=by
 have h1:1<=n:=by omega
 have mixed:=L.mixed;have t0:=L.t0;have a0:=L.a0;have z0:=L.z0;have v0:=L.v0;have t24:=L.t24;have a24:=L.a24;have z24:=L.z24;have v24:=L.v24;have t26:=L.t26;have a26:=L.a26;have z26:=L.z26;have v26:=L.v26;have t28:=L.t28;have a28:=L.a28;have z28:=L.z28;have v28:=L.v28;have hne:ρ.t 24≠ρ.t 26:=fun e=>by have h:=L.t24;rw[e,L.t26]at h;cases h
 have u0:=run_underlying L.t0;have u24:=run_underlying L.t24;have u26:=run_underlying L.t26;have u28:=run_underlying L.t28;obtain⟨_,_,FG⟩:=L.f11;refine callsIn_of_wp_marks FG rfl h11 ?_ hro;simp only[SlBodyZ.n11_ntmps ρ,List.size_toArray,QE,QY,Nat.reduceAdd,Nat.reduceSub,Array.replicate_succ,Array.replicate_zero,List.push_toArray,List.append_toArray,List.nil_append,List.cons_append]
 gi_wp2
 refine wpIn_rangeFunc ?_;intro fn hfn;rw[hro];obtain⟨W0,hW0⟩:∃W0,w.alloc (.cells #[.slice none 0 0] (ρ.t 24))=W0:=⟨_,rfl⟩;have hs0:W0.heap.size=w.heap.size+1:=by rw[<-hW0];simp
 have hv0:W0.heap[w.heap.size]?=some (.cells #[.slice none 0 0] (ρ.t 24) (0,0)):=by rw[<-hW0];exact World.alloc_heap_new w _
 have hb0:Below w.heap.size w W0:=by rw[<-hW0];exact(Below.refl _ w).alloc (QI _) _
 rw[hW0];obtain⟨W1,hW1⟩:∃W1,(W0.alloc (.deferred (some []))).alloc (.loop (AnyZ.apRec ρ fn (.func (.func g) #[] lb) w.heap.size W0.heap.size .ready none))=W1:=⟨_,rfl⟩
 have hold:∀k,k<W0.heap.size->W1.heap[k]?=W0.heap[k]?:=fun k hk=>by
  rw[<-hW1];exact(Below.heap_alloc _ _ k (by simp;omega)).trans (Below.heap_alloc _ _ k hk)
 have hb1:Below w.heap.size w W1:=by rw[<-hW1];exact(hb0.alloc hb0.size _).alloc (by have:=hb0.size;simp;omega) _
 have hs1:W1.heap.size=W0.heap.size+2:=by rw[<-hW1];simp
 have hM:AnyZ.ApAt ρ w fn (.func (.func g) #[] lb) w.heap.size (W0.heap.size+1) W0.heap.size [] W1:=
  ⟨⟨_,(hold w.heap.size (by omega)).trans hv0,⟨rfl,.inl ⟨rfl,rfl⟩⟩,by simp⟩,
   by rw[<-hW1];have:=World.alloc_heap_new (W0.alloc (.deferred (some []))) (.loop (AnyZ.apRec ρ fn (.func (.func g) #[] lb) w.heap.size W0.heap.size .ready none));rwa [World.size_alloc]at this,
   by rw[<-hW1];exact(Below.heap_alloc _ _ _ (by simp)).trans (World.alloc_heap_new W0 _),hb1⟩
 refine⟨W0.heap.size+1,[{target:= .collected W0.heap.size,args:=#[]}],W1,{target:= .fn (.func g) lb,args:=#[.func (.yield (W0.heap.size+1)) #[] #[]]},W1,g,
  #[.func (.yield (W0.heap.size+1)) #[] #[]]++lb,W1,?_,?_,?_,?_,fun _=>h1,?_⟩
 ·rw[<-hW1];exact run_enterLoop_outer _ _ _ _ _
 ·simp[resolve,go_sem]
 ·intro f' hf';simp[Target.leads]at hf';subst hf';exact hFg
 ·simp[invoke,go_sem,eg]
 ·refine(hseq fn hfn w.heap.size (W0.heap.size+1) W0.heap.size W1 (QI _) (by omega) (by omega) (by omega) (by omega) (by omega) hM).mono ?_
  rintro e W2 ⟨⟨v0,rfl⟩,w2,ss,hsz2,hS,h2⟩;obtain⟨v,hv,hrow,hnil⟩:=h2.box;have hend:=run_endLoop (P:=P) h2.L (by simp[AnyZ.apRec])
  obtain⟨W3,hW3⟩:∃W3,W2.putObj (W0.heap.size+1) (.loop {AnyZ.apRec ρ fn (.func (.func g) #[] lb) w.heap.size W0.heap.size .ready none with state:= .exhausted})=W3:=⟨_,rfl⟩
  rw[hW3]at hend;have hg3:W2.grownBy W3 (some (W0.heap.size+1)):=by rw[<-hW3];exact grownBy_putObj_a _ _ _
  have hv3:W3.heap[w.heap.size]?=some (.cells #[v] (ρ.t 24) (0,0)):=by rw[<-hW3];exact(World.putObj_heap_other (by omega)).trans hv
  have hK3:W3.heap[W0.heap.size]?=some (.deferred (some [])):=by rw[<-hW3];exact(World.putObj_heap_other (by omega)).trans h2.K
  have hrow3:=hrow.kept hg3 (ownsRow_ne_a hrow h2.L (fun cur e=>by first|cases e|exact hne (Obj.cells.inj e).2.1))
  have hb3:Below w2.heap.size w2 W3:=h2.below.grown hg3 h2.below.size (fun k e=>by cases e;omega)
  obtain⟨hc3,hf3⟩:=cell_of_box_a hv3;clear hW3;refine⟨none,W3,hend,?_⟩
  gi_wp2
  rw[<-hs0];refine⟨by simp,.inl ⟨_,_,rfl,run_takeDeferred hK3,?_⟩⟩
  exact⟨_,results_tmp rfl _ _ _,v,w2,ss,rfl,hsz2,hS,hrow3.kept (grownBy_putObj_a _ _ _) (ownsRow_ne_a hrow3 hK3 (fun cur e=>by first|cases e|exact hne (Obj.cells.inj e).2.1)),hb3.grown (grownBy_putObj_a _ _ _) hb3.size (fun k e=>by cases e;omega)⟩
end Go.Proofs
namespace Go.Proofs.YtnhgcpiljggmmaaGreatDoor
open Go.TQ Go.RowKit Go.Proofs Go.Maps Go.Sort Go.Shelf
def jT(s:ByteArray):Int:=Lib.indexByte s.data.toList 10
theorem Ih(s:ByteArray)(h:0<=jT s):(jT s).toNat<s.size:=by
 obtain⟨o,ho⟩:∃o:Nat,jT s=o:=⟨(jT s).toNat,by omega⟩
 have:=(Lib.indexByte_some ho).1;have h2:=(Qw.1 this).1;rw[ho];simpa using h2
def eB:Nat->ByteArray->List ByteArray
 |0,_=>[]
 |f+1,s=>if s.size=0 then[]else
   if 0<=jT s then s.extract 0 ((jT s).toNat+1)::eB f (s.extract ((jT s).toNat+1) s.size)else[s]
theorem DP:∀(f g:Nat) (s:ByteArray),s.size<=f->s.size<=g->eB f s=eB g s
 |0,0,_,_,_=>rfl
 |0,g+1,s,h,_=>by simp only[eB];rw[Qr (by omega)]
 |f+1,0,s,_,h=>by simp only[eB];rw[Qr (by omega)]
 |f+1,g+1,s,hf,hg=>by
  simp only[eB];split
  ·rfl
  ·split
   ·rw[DP f g _ (by rw[ByteArray.size_extract];omega) (by rw[ByteArray.size_extract];omega)]
   ·rfl
def oS(w1:World)(Bl:Nat)(fn:FuncId)(sv:Value)(Bs l D:Nat)(pre:List ByteArray)(rest:ByteArray)(W:World):Prop:=
 AnyZ.ApAt Tryz.AG (w1.setCell ⟨Bl,0,none⟩ (.string rest)) fn sv Bs l D (pre.map (·.data.toList)) W
theorem dq(w:World)(p:Addr)(v:Value):(w.setCell p v).heap.size=w.heap.size:=by simp[World.setCell]
theorem J9(s:ByteArray):encStr s.data.toList= .string s:=by simp[encStr]
section
variable {w1 : World} {Bl : Nat} {fn : FuncId} {sv : Value} {Bs l D : Nat} {s0 : ByteArray} (hBl : w1.heap[Bl]? = some (.cells #[.string s0] 9 (0, 0)))
 include hBl
theorem oS.box{pre:List ByteArray}{rest:ByteArray}{W:World}(h:oS w1 Bl fn sv Bs l D pre rest W):W.heap[Bl]?=some (.cells #[.string rest] 9 (0,0)):=by
 have hlt:=(Q8.1 hBl).1;rw[(AnyZ.ApAt.below h).block Bl (by rw[dq];exact hlt)]
 exact heap_setCell_box_a _ hBl
theorem oS.store{pre:List ByteArray}{rest:ByteArray}{W:World}(h:oS w1 Bl fn sv Bs l D pre rest W)(h1:w1.heap.size<=Bs)(h2:w1.heap.size<=l)(h3:w1.heap.size<=D)(rest':ByteArray):
  oS w1 Bl fn sv Bs l D pre rest' (W.setCell ⟨Bl,0,none⟩ (.string rest')):=by
 have hlt:=(Q8.1 hBl).1;have hb:=oS.box hBl h;have hoth:∀k,k≠Bl->(W.setCell ⟨Bl,0,none⟩ (.string rest')).heap[k]?=W.heap[k]?:=fun k hk=>Below.heap_setCell _ _ _ k hk
 obtain⟨v,hv,hr,hn⟩:=AnyZ.ApAt.box h;refine⟨⟨v,(hoth Bs (by omega)).trans hv,⟨hr.1,?_⟩,hn⟩,(hoth l (by omega)).trans (AnyZ.ApAt.L h),(hoth D (by omega)).trans (AnyZ.ApAt.K h),?_⟩
 ·rcases hr.2 with h0|⟨g,cap,cur,e1,e2,e3,e4⟩
  ·exact .inl h0
  ·rw[dq]at e2;exact .inr ⟨g,cap,cur,e1,by rw[dq];exact e2,(hoth g (by omega)).trans e3,e4⟩
 ·have hbl:=AnyZ.ApAt.below h;refine⟨hbl.os,hbl.tape,hbl.output,by rw[dq,dq];have:=hbl.size;rw[dq]at this;exact this,fun k hk=> ?_⟩
  rw[dq]at hk
  by_cases e:k=Bl
  ·subst e;rw[heap_setCell_box_a _ hb,heap_setCell_box_a _ hBl]
  ·rw[hoth k e,Below.heap_setCell _ _ _ k e,hbl.block k (by rw[dq];exact hk),Below.heap_setCell _ _ _ k e]
end
theorem oS.drew{w1:World}{Bl:Nat}{fn:FuncId}{sv:Value}{Bs l D:Nat}{pre:List ByteArray}{rest:ByteArray}{W:World}(h:oS w1 Bl fn sv Bs l D pre rest W):oS w1 Bl fn sv Bs l D pre rest W.drew:=by
 obtain⟨v,hv,hr,hn⟩:=AnyZ.ApAt.box h;have hb:=AnyZ.ApAt.below h;have a1:=AnyZ.ApAt.L h;have a2:=AnyZ.ApAt.K h;exact⟨⟨v,hv,hr,hn⟩,a1,a2,⟨hb.os,hb.tape,hb.output,hb.size,hb.block⟩⟩
theorem Nv(pre:List ByteArray)(x:ByteArray):pre.map (·.data.toList)++[x.data.toList]=(pre++[x]).map (·.data.toList):=by simp
def GD(Bl:Nat)(w:World):Nat:=match w.cell? ⟨Bl,0,none⟩with
 |some (.string r)=>r.size
 |_=>0
theorem oS.cell{w1:World}{Bl:Nat}{fn:FuncId}{sv:Value}{Bs l D:Nat}{s0:ByteArray}(hBl:w1.heap[Bl]?=some (.cells #[.string s0] 9 (0,0))){pre:List ByteArray}{rest:ByteArray}{W:World}(h:oS w1 Bl fn sv Bs l D pre rest W):
  W.cell? ⟨Bl,0,none⟩=some (.string rest)/\W.frozen? ⟨Bl,0,none⟩=false:=cell_of_box_a (oS.box hBl h)
set_option maxRecDepth 100000 in
set_option maxHeartbeats 2000000 in
theorem iter_walk{w1:World}{Bl:Nat}{fn:FuncId}{sv:Value}{Bs l D:Nat}{s0:ByteArray}(hBl:w1.heap[Bl]?=some (.cells #[.string s0] 9 (0,0)))(h1:w1.heap.size<=Bs)(h2:w1.heap.size<=l)(h3:w1.heap.size<=D)(hd1:Bs≠l)(hd2:D≠l)(hd3:D≠Bs)
  (s:ByteArray) (hs:s.size<=8796093022208) (W:World) (h:oS w1 Bl fn sv Bs l D [] s W) (n:Nat):
  CallsIn Fence.wide n Tryz.prog 52 #[.func (.yield l) #[] #[],.pointer (some ⟨Bl,0,none⟩)] W fun e W'=>(∃v,e= .returned v)/\oS w1 Bl fn sv Bs l D (eB s.size s) ⟨#[]⟩ W':=by
 refine callsIn_of_wp Tryz.func52 rfl trivial ?_ rfl;simp only[Tryz.ntmps52,List.size_toArray,QE,QY,Nat.reduceAdd,Nat.reduceSub,Array.replicate_succ,Array.replicate_zero,List.push_toArray,List.append_toArray,List.nil_append,List.cons_append]
 gi_wp2
 gi_loopw [] (fun wr=>∃(pre:List ByteArray) (rest:ByteArray),oS w1 Bl fn sv Bs l D pre rest wr/\pre++eB rest.size rest=eB s.size s/\pre.length+rest.size<=s.size) (fun wr=>GD Bl wr)
 case atStart=>exact⟨[],s,h,rfl,by simp⟩
 case round=>
  obtain⟨pre,rest,hA,hpre,hlen⟩:=hrel;obtain⟨hc,hf⟩:=oS.cell hBl hA
  by_cases h0:rest.size=0
  ·gi_wp2
   go_end0
   rw[h0]at hpre
   obtain rfl:rest=⟨#[]⟩:=by
    obtain⟨d⟩:=rest;have:d=#[]:=Array.eq_empty_of_size_eq_zero h0;rw[this]
   rw[<-hpre];simp only[eB,List.append_nil];exact⟨⟨_,rfl⟩,hA⟩
  ·gi_wp2
   refine⟨trivial,(fun h=>by cases h),(callsIn_wide.2 (Tryz.strings_IndexByte rest 10 wr)).mono ?_⟩
   rintro e w' ⟨rfl,rfl⟩;rw[show Lib.indexByte rest.data.toList (10:Int).toNat.toUInt8=jT rest from rfl]
   obtain⟨f,hf1⟩:∃f,rest.size=f+1:=⟨rest.size - 1,by omega⟩
   rw[hf1]at hpre;simp only[eB,Qs h0]at hpre;have hle:=Ih rest;have hge: -1<=jT rest:=Lib.indexByte_ge _ _
   by_cases hE:0<=jT rest
   ·rw[Qr hE]at hpre;have hlt:=hle hE;obtain⟨k,hk⟩:∃k:Nat,jT rest=k:=⟨(jT rest).toNat,by omega⟩
    rw[hk]at hpre hlt hE ⊢;simp only[QV]at hpre hlt;clear hge hle hk
    gi_wp2
    gi_region
    have hx1:(rest.extract (k+1) (f+1)).size=f - k:=by rw[ByteArray.size_extract];omega
    rw[show rest.extract (k+1) rest.size=rest.extract (k+1) (f+1)by rw[hf1]]at hpre
    have hA2:=oS.drew (oS.store hBl hA h1 h2 h3 (rest.extract (k+1) (f+1)));generalize rest.extract (k+1) (f+1)=rest' at hA2 hx1 hpre ⊢;generalize rest.extract 0 (k+1)=line at hpre ⊢;obtain⟨fn',tmps,assign,body,hy,hR⟩:=AnyZ.apYield Tryz.Kj Fence.wide (n - 1) (w1.setCell ⟨Bl,0,none⟩ (.string rest')) fn trivial sv Bs l D hd1 hd2 hd3 (by rw[dq];exact h1) (by rw[dq];exact h2) 8796093022208 (by decide) (by decide) (pre.map fun b:ByteArray=>b.data.toList) line.data.toList _ hA2 (by rw[QC];omega)
    rw[J9]at hy
    gi_wp2
    refine⟨(fun h=>by cases h),hR.mono ?_⟩
    rintro e W3 ⟨rfl,hJ3,hk3⟩;rw[Nv]at hJ3;have hJ4:oS w1 Bl fn sv Bs l D (pre++[line]) rest' W3:=hJ3
    gi_wp2
    go_roundw
    case rel=>
     refine⟨pre++[line],rest',hJ4,?_,by rw[QB,hx1];simp;omega⟩
     rw[<-hpre,QL,DP rest'.size f rest' (QI _) (by omega)]
     rfl
    case measure=>
     simp only[GD,(oS.cell hBl hJ4).1,hc];omega
   ·rw[Qs hE]at hpre;have hE1:jT rest= -1:=by omega
    rw[hE1];have hA2:=oS.store hBl hA h1 h2 h3 ⟨#[]⟩;obtain⟨fn',tmps,assign,body,hy,hR⟩:=AnyZ.apYield Tryz.Kj Fence.wide (n - 1) (w1.setCell ⟨Bl,0,none⟩ (.string ⟨#[]⟩)) fn trivial sv Bs l D hd1 hd2 hd3 (by rw[dq];exact h1) (by rw[dq];exact h2) 8796093022208 (by decide) (by decide) (pre.map fun b:ByteArray=>b.data.toList) rest.data.toList _ hA2 (by rw[QC];omega)
    rw[J9]at hy
    gi_wp2
    refine⟨(fun h=>by cases h),hR.mono ?_⟩
    rintro e W3 ⟨rfl,hJ3,hk3⟩;rw[Nv]at hJ3;have hJ4:oS w1 Bl fn sv Bs l D (pre++[rest]) ⟨#[]⟩ W3:=hJ3
    gi_wp2
    go_roundw
    case rel=>
     refine⟨pre++[rest],⟨#[]⟩,hJ4,?_,by rw[QB];simp only[QE,QY];show pre.length+1+0<=s.size;omega⟩
     rw[<-hpre];show pre++[rest]++[]=_;rw[List.append_nil]
    case measure=>
     simp only[GD,(oS.cell hBl hJ4).1,hc];show 0<rest.size;omega
theorem oS.start{w1:World}{Bl:Nat}{fn:FuncId}{sv:Value}{Bs l D:Nat}{s:ByteArray}(hBl:w1.heap[Bl]?=some (.cells #[.string s] 9 (0,0))){W:World}(h:AnyZ.ApAt Tryz.AG w1 fn sv Bs l D [] W):oS w1 Bl fn sv Bs l D [] s W:=by
 obtain⟨v,hv,hr,hn⟩:=AnyZ.ApAt.box h;have hb:=AnyZ.ApAt.below h;have a1:=AnyZ.ApAt.L h;have a2:=AnyZ.ApAt.K h;refine⟨⟨v,hv,⟨hr.1,?_⟩,hn⟩,a1,a2,⟨hb.os,hb.tape,hb.output,by rw[dq];exact hb.size,fun k hk=> ?_⟩⟩
 ·rcases hr.2 with h0|⟨g,cap,cur,e1,e2,e3,e4⟩
  ·exact .inl h0
  ·exact .inr ⟨g,cap,cur,e1,by rw[dq];exact e2,e3,e4⟩
 ·rw[dq]at hk;rw[hb.block k hk]
  by_cases e:k=Bl
  ·subst e;rw[heap_setCell_box_a _ hBl,hBl]
  ·rw[Below.heap_setCell _ _ _ k e]
set_option maxRecDepth 100000 in
set_option maxHeartbeats 2000000 in
theorem Te(s:ByteArray)(w:World):Calls Tryz.prog 27 #[.string s] w fun e w'=>e= .returned (.func (.func 52) #[] #[.pointer (some ⟨w.heap.size,0,none⟩)])/\w'=w.alloc (.cells #[.string s] 9):=by
 go_enter Tryz.func27,Tryz.ntmps27
 go_wp2
 go_ret
 exact⟨rfl,rfl⟩
set_option maxRecDepth 100000 in
set_option maxHeartbeats 2000000 in
theorem OO(s:ByteArray)(hs:s.size<=8796093022208)(w1:World)(Bl:Nat)(hBl:w1.heap[Bl]?=some (.cells #[.string s] 9 (0,0))):
  Calls Tryz.prog 26 #[.func (.func 52) #[] #[.pointer (some ⟨Bl,0,none⟩)]] w1 fun e w'=>∃(v:Value) (w2:World),e= .returned v/\w2=w1.setCell ⟨Bl,0,none⟩ (.string ⟨#[]⟩)/\
   w'.ownsRow w2.heap.size 9 1 v (eB s.size s).length ((eB s.size s).map Value.string)/\RowKit.Below w2.heap.size w2 w':=by
 have hseq:CallsIn Fence.wide 3 Tryz.prog 51 #[.slice none 0 0,.func (.func 52) #[] #[.pointer (some ⟨Bl,0,none⟩)]] w1 fun e w'=>∃(v:Value) (w2:World) (ss:List (List UInt8)),e= .returned v/\w2.heap.size=w1.heap.size/\
   (w2=w1.setCell ⟨Bl,0,none⟩ (.string ⟨#[]⟩)/\ss=(eB s.size s).map fun b:ByteArray=>b.data.toList)/\w'.ownsRow w2.heap.size 9 1 v ss.length (ss.map encStr)/\RowKit.Below w2.heap.size w2 w':=
  TW Tryz.Kj Fence.wide 3 trivial rfl (by omega) 52 #[.pointer (some ⟨Bl,0,none⟩)] trivial (enters_of Tryz.func52 (by kernel_rfl) rfl) w1
   (fun w2 ss=>w2=w1.setCell ⟨Bl,0,none⟩ (.string ⟨#[]⟩)/\ss=(eB s.size s).map fun b:ByteArray=>b.data.toList)
   (fun fn hfn Bs l D W h1 h2 h3 hd1 hd2 hd3 hM=>by
    refine(iter_walk hBl h1 h2 h3 hd1 hd2 hd3 s hs W (oS.start hBl hM) 2).mono ?_;rintro e W' ⟨hv,hA⟩
    exact⟨hv,_,_,by rw[dq],⟨rfl,rfl⟩,hA⟩)
 have hseq:=callsIn_wide.1 hseq
 go_enter Tryz.func26,Tryz.ntmps26
 go_wp2_with (go_at_call 51;refine hseq.mono ?_)
 rintro e w' ⟨v,w2,ss,rfl,_,⟨hw2,rfl⟩,hr,hb⟩
 go_wp2
 go_ret
 refine⟨_,w2,rfl,hw2,?_,hb⟩;rw[QC,List.map_map]at hr;rw[show(eB s.size s).map Value.string=(eB s.size s).map (encStr∘fun b:ByteArray=>b.data.toList)from Qq70 fun b _=>(J9 b).symm]
 exact hr
open Classical in
 def A9(s:ByteArray):Option (List ByteArray):=if s.size<=8796093022208 then some (eB s.size s)else none
theorem Xw:dk.Sound Tryz.prog (U:=U) (.pr 27 26 [.ty Ty.str] 9 1 Ty.str fun a=>A9 a.1):=by
 refine⟨⟨⟨_,Tryz.func27,by kernel_rfl,by kernel_rfl⟩,⟨_,Tryz.func26,by kernel_rfl,by kernel_rfl⟩⟩,fun a r h=> ?_⟩
 obtain⟨s,u⟩:=a;have h:A9 s=some r:=h;show Ud Tryz.prog 27 26 [.str s] 9 1 (r.map fun x:ByteArray=>[PV.str x])
 unfold A9 at h;split at h
 ·rename_i hs;injection h with h
  subst h;intro w X hX vs hv;obtain⟨v,rfl,hv1⟩:=Bu hv;obtain rfl:=dH hv1;refine(Te s w).mono ?_;rintro e w1 ⟨rfl,rfl⟩;refine⟨_,rfl,?_⟩;have hBl:=World.alloc_heap_new w (.cells #[.string s] 9);refine(OO s hs _ w.heap.size hBl).mono ?_;rintro e w' ⟨v,w2,rfl,rfl,hr,hb⟩;rw[dq]at hr;have hsz:(w.alloc (.cells #[.string s] 9)).heap.size=w.heap.size+1:=by simp
  have hfl:∀l:List ByteArray,(l.map fun s=>[PV.str s]).flatten=l.map PV.str:=fun l=>by
   induction l with
   |nil=>rfl
   |cons y l ih=>rw[QD,List.flatten_cons,ih];rfl
  refine⟨v,rfl,⟨(eB s.size s).map Value.string,?_,?_,?_⟩,?_,?_⟩
  ·rw[QC];exact ownsRow_base_a hr (QS _)
  ·intro x hx;obtain⟨y,_,rfl⟩:=QP.1 hx;rfl
  ·rw[hfl];refine⟨by simp,fun i x v h1 h2=> ?_⟩
   rw[QT]at h1 h2
   cases hq:(eB s.size s)[i]? with
   |none=>rw[hq]at h1;cases h1
   |some y=>rw[hq]at h1 h2;injection h1 with h1;injection h2 with h2;subst h1 h2;exact .str _
  ·intro b hb1;rcases hr.2 with⟨rfl,_⟩|⟨g,cap,cur,rfl,e2,_⟩
   ·cases hb1
   ·injection hb1 with hb1
    simp only at hb1;omega
  ·rw[dq]at hb;refine⟨hb.os,hb.tape,hb.output,by have:=hb.size;rw[dq,hsz]at this;omega,fun b hb1 _=> ?_,fun e=>by cases e⟩
   rw[hb.block b (by omega),Below.heap_setCell _ _ _ b (by show b≠w.heap.size;omega)]
   exact Below.heap_alloc w _ b hb1
 ·cases h
end Go.Proofs.YtnhgcpiljggmmaaGreatDoor
end
noncomputable section
end
noncomputable section
namespace Go.Proofs.YtnhgcpiljggmmaaGreatDoor
open Go.TQ Go.Proofs.Tryz
@[reducible] def u1 {A0 B:Type} (F:A0->B) (a:A0×Unit):B:=F a.1
@[reducible] def u2 {A0 A1 B:Type} (F:A0->A1->B) (a:A0×A1×Unit):B:=F a.1 a.2.1
@[reducible] def u3 {A0 A1 A2 B:Type} (F:A0->A1->A2->B) (a:A0×A1×A2×Unit):B:=F a.1 a.2.1 a.2.2.1
@[reducible] def u4 {A0 A1 A2 A3 B:Type} (F:A0->A1->A2->A3->B) (a:A0×A1×A2×A3×Unit):B:=F a.1 a.2.1 a.2.2.1 a.2.2.2.1
@[reducible] def u5 {A0 A1 A2 A3 A4 B:Type} (F:A0->A1->A2->A3->A4->B) (a:A0×A1×A2×A3×A4×Unit):B:=F a.1 a.2.1 a.2.2.1 a.2.2.2.1 a.2.2.2.2.1
@[reducible] def u6 {A0 A1 A2 A3 A4 A5 B:Type} (F:A0->A1->A2->A3->A4->A5->B) (a:A0×A1×A2×A3×A4×A5×Unit):B:=F a.1 a.2.1 a.2.2.1 a.2.2.2.1 a.2.2.2.2.1 a.2.2.2.2.2.1
@[reducible] def zB:ao:=ao.mk 0 (ByteArray.mk #[])
def p_:Nat->Nat->NT U->NT U|0,_,x=>x|k+1,n,x=>match n % 2 with|0=> .l (p_ k (n / 2) x)|_=> .r (p_ k (n / 2) x)
@[reducible] def oR {A B:Type} (x:Option B):Option (A⊕B):=Option.map Sum.inr x
@[reducible] def y0:Ty:=Ty.i .i64
@[reducible] def y1:Ty:=Ty.bool
@[reducible] def y2:Ty:=Ty.str
@[reducible] def y3:Ty:=Ty.st .aa
@[reducible] def y4:Ty:=Ty.st .au
@[reducible] def y5:Ty:=Ty.st .aj
@[reducible] def y6:Ty:=Ty.st .Step
@[reducible] def y7:Ty:=Ty.st .aw
@[reducible] def y8:Ty:=Ty.st .World
@[reducible] def y9:Ty:=Ty.st .Src
@[reducible] def y10:Ty:=Ty.st .hU
@[reducible] def y11:Ty:=Ty.st .ai
@[reducible] def y12:Ty:=Ty.sl (Ty.i .i64)
@[reducible] def y13:Ty:=Ty.st .aE
@[reducible] def y14:Ty:=Ty.sl (Ty.st .ai)
@[reducible] def y15:Ty:=Ty.sl Ty.str
@[reducible] def y16:Ty:=Ty.st .Config
@[reducible] def y17:Ty:=Ty.st .pP
@[reducible] def y18:Ty:=Ty.st .al
@[reducible] def y19:Ty:=Ty.st .af
@[reducible] def y20:Ty:=Ty.st .gg
@[reducible] def y21:Ty:=Ty.sl (Ty.st .aj)
@[reducible] def y22:Ty:=Ty.st .pA
@[reducible] def y23:Ty:=Ty.sl (Ty.st .Step)
@[reducible] def y24:Ty:=Ty.sl (Ty.st .aa)
@[reducible] def y25:Ty:=Ty.st .dC
@[reducible] def y26:Ty:=Ty.st .np
@[reducible] def y27:Ty:=Ty.st .zo
@[reducible] def y29:Ty:=Ty.sl (Ty.st .np)
@[reducible] def t12:dn U:= .ty y12
@[reducible] def t0:dn U:= .ty y0
@[reducible] def t15:dn U:= .ty y15
@[reducible] def t3:dn U:= .ty y3
@[reducible] def t5:dn U:= .ty y5
@[reducible] def t2:dn U:= .ty y2
@[reducible] def t11:dn U:= .ty y11
@[reducible] def t6:dn U:= .ty y6
@[reducible] def t16:dn U:= .ty y16
@[reducible] def t17:dn U:= .ty y17
@[reducible] def t4:dn U:= .ty y4
@[reducible] def t7:dn U:= .ty y7
@[reducible] def t13:dn U:= .ty y13
@[reducible] def t10:dn U:= .ty y10
@[reducible] def t8:dn U:= .ty y8
@[reducible] def t14:dn U:= .ty y14
@[reducible] def q0:nn U:= .one y0
@[reducible] def q2:nn U:= .one y2
@[reducible] def q1:nn U:= .one y1
noncomputable def kf{f:FuncId}{fn:Func}(hf:prog.funcs[f]?=some fn)(sg:List (dn U))(r:nn U)(F:dZ sg->Option r.den)(hs:List Nat)(n:NT U)(G:List (KS U prog))(h1:(fn.body.bind (bO prog fn.ntmps hs))=some (iN (mI prog fn.ntmps hs fn) n).erase:=by kernel_rfl)(h2:mn prog fn.results.toList=some ((mn prog fn.results.toList).getD []):=by kernel_rfl)(h3:(fn.name== "runtime.NumGoroutine")=false:=by kernel_rfl)(hok:(iN (mI prog fn.ntmps hs fn) n).du=true:=by kernel_rfl)(hlen:Nat.ble sg.length fn.ntmps=true:=by kernel_rfl)(hF:Ou K (KS.ks G) (iN (mI prog fn.ntmps hs fn) n) ((mn prog fn.results.toList).getD []) sg r=F:=by kernel_rfl):KS U prog:=⟨.fn f sg r F,fnS (K:=K) _ _ _ G ⟨fn,hs,hf,rfl,h1,h2,h3⟩ hok (QG hlen) hF⟩
noncomputable def kr{f:FuncId}{fn:Func}(hf:prog.funcs[f]?=some fn)(pos:Nat)(R:Ty)(sg:List (dn U))(r:nn U)(F:U.den R->dZ sg->Option (r.den×U.den R))(hs:List Nat)(n:NT U)(G:List (KS U prog))(h1:(fn.body.bind (bO prog fn.ntmps hs))=some (iN (mI prog fn.ntmps hs fn) n).erase:=by kernel_rfl)(h2:mn prog fn.results.toList=some ((mn prog fn.results.toList).getD []):=by kernel_rfl)(h3:(fn.name== "runtime.NumGoroutine")=false:=by kernel_rfl)(hok:(iN (mI prog fn.ntmps hs fn) n).du=true:=by kernel_rfl)(hlen:Nat.ble (1+sg.length) fn.ntmps=true:=by kernel_rfl)(hF:UW K (KS.ks G) (iN (mI prog fn.ntmps hs fn) n) ((mn prog fn.results.toList).getD []) pos R sg r=F:=by kernel_rfl):KS U prog:=⟨.rc f pos R sg r F,rcS (K:=K) _ _ _ G ⟨fn,hs,hf,rfl,h1,h2,h3⟩ hok (QG hlen) hF⟩
noncomputable def Po:SA U:=iN (mI prog 10 [] f6) .e
noncomputable def xX(a0:(List Int)):Option cr:=bif dN 0 (eS ((a0.length:Nat):Int) 800) (a0.length)then some (cr.mk ((a0.take (Int.toNat (eS ((a0.length:Nat):Int) 800))).drop (Int.toNat 0)) 0)else none
noncomputable def Tl:KS U prog:=⟨.nw 6 [t12] y9 fun a=>xX a.1,nwS (K:=K) Po 10 2 [] (fk f6 [] func6)⟩
noncomputable def bF(s:cr)(a0:Int):Option (Int×cr):=bm (fun(v1:Bool×Unit)=>bif v1.1 then some (0,s)else(idx s.L (ez .i64 (aB .i64 s.At 1) 1)).bind fun x3=>if a0=0 then none else if a0=0 then none else some ((Du .i64 (aB .i64 (Du .i64 x3 a0) a0) a0),(cr.mk s.L (aB .i64 s.At 1)))) fun j2=>bif (decide (((s.L.length:Nat):Int)<=s.At))then j2 (true,())else j2 ((decide (a0<1)),())
def js:=kr func14 0 y9 [t0] q0 (fun s a=>bF s a.1) [] (p_ 2 1 (.j ⟨[.val 18 y1],[0,1]⟩ .e)) []
def cD(s:cr)(a0:Int)(a1:Int):Option (Int×cr):=(bF s (aB .i64 (ez .i64 a1 a0) 1)).bind fun p1=>some ((aB .i64 a0 p1.1),p1.2)
def mi:=kr func7 0 y9 [t0,t0] q0 (fun s a=>cD s a.1 a.2.1) [] .e [js]
def ql(s:cr)(a0:Int):Option (Int×cr):=aD (fun(v1:Int×Int×cr×Unit)=>bif (decide (v1.2.1<a0))then(bF v1.2.2.1 2).bind fun p2=>if(bI .u64 v1.2.1)<0 then none else some (Sum.inl ((qy .i64 v1.1 (cP .i64 p2.1 (bI .u64 v1.2.1))),(aB .i64 v1.2.1 1),p2.2,()))else oR (some (v1.1,v1.2.2.1))) (0,0,s,())
def IH:=kr func22 0 y9 [t0] q0 (fun s a=>ql s a.1) [] (p_ 5 11 (.j ⟨[.val 5 y0,.val 6 y0,.box 0 0 y9 []],[0,1]⟩ .e)) [js]
def oK(s:cr)(a0:Int):Option (Int×cr):=(bF s 4).bind fun p1=>bm (fun(v2:Bool×Unit)=>bif v2.1 then some (0,p1.2)else bif (decide (p1.1=2))then(bF p1.2 a0).bind fun p4=>if(bI .u64 p4.1)<0 then none else some ((cP .i64 1 (bI .u64 p4.1)),p4.2)else(ql p1.2 a0).bind fun p5=>some (p5.1,p5.2)) fun j3=>bif (decide (p1.1=0))then j3 ((decide (p1.1=0)),())else j3 ((decide (p1.1=1)),())
def J0:=kr func9 0 y9 [t0] q0 (fun s a=>oK s a.1) [] (p_ 4 5 (.j ⟨[.val 7 y1],[0,1,6]⟩ .e)) [js,IH]
def la(s:cr)(a0:(List ByteArray)):Option (ByteArray×cr):=(bF s ((a0.length:Nat):Int)).bind fun p1=>(idx a0 p1.1).bind fun x2=>some (x2,p1.2)
def zR:=kr func15 0 y9 [t15] q2 (fun s a=>la s a.1) [] .e [js]
def gZ(s:cr):Option (ByteArray×cr):=(la s [(ByteArray.mk #[97]),(ByteArray.mk #[98]),(ByteArray.mk #[99]),(ByteArray.mk #[97,97])]).bind fun p1=>some (p1.1,p1.2)
def tA:=kr func137 0 y9 [] q2 (fun s a=>gZ s) [] .e [zR]
def ke(s:cr)(a0:Int):Option (ab×cr):=aD (fun(v1:Int×cr×ab×(List Int)×(List ab)×Unit)=>bif (decide (v1.1<a0))then bm (fun(v2:cr×ab×(List Int)×(List ab)×Unit)=>some (Sum.inl ((aB .i64 v1.1 1),v2.1,(ab.mk v2.2.1.aM ([]:List Int) ([]:List ab)),v2.2.2.1,v2.2.2.2.1,()))) fun j3=>(bF v1.2.1 5).bind fun p4=>bif (decide (0<p4.1))then bif aT 8 (v1.2.2.2.1.length+List.length [v1.1])then j3 (p4.2,(ab.mk v1.2.2.1.aM ([]:List Int) ([]:List ab)),(v1.2.2.2.1++[v1.1]),v1.2.2.2.2.1,())else none else j3 (p4.2,(ab.mk v1.2.2.1.aM ([]:List Int) ([]:List ab)),v1.2.2.2.1,v1.2.2.2.2.1,())else oR (bm (fun(v5:cr×ab×(List ab)×Unit)=>bm (fun(v7:cr×ab×(List ab)×Unit)=>(cD v7.1 (yw .i64 (aB .i64 (aB .i64 ((v7.2.1.aH.length:Nat):Int) ((v7.2.2.1.length:Nat):Int)) 1) 2) (aB .i64 ((v7.2.1.aH.length:Nat):Int) ((v7.2.2.1.length:Nat):Int))).bind fun p9=>bm (fun(v10:cr×ab×(List ab)×Unit)=>some ((ab.mk v10.2.1.aM v10.2.1.aH v10.2.2.1),v10.1)) fun j11=>(bF p9.2 6).bind fun p12=>bif (decide (p12.1=5))then j11 (p12.2,(ab.mk 1 v7.2.1.aH ([]:List ab)),v7.2.2.1,())else j11 (p12.2,(ab.mk p9.1 v7.2.1.aH ([]:List ab)),v7.2.2.1,())) fun j8=>(bF v5.1 4).bind fun p13=>bif (decide (p13.1=3))then(bF p13.2 a0).bind fun p14=>bif aT 56 (v5.2.2.1.length+List.length [(ab.mk 1 [p14.1] ([]:List ab))])then j8 (p14.2,(ab.mk v5.2.1.aM v5.2.1.aH ([]:List ab)),(v5.2.2.1++[(ab.mk 1 [p14.1] ([]:List ab))]),())else none else j8 (p13.2,(ab.mk v5.2.1.aM v5.2.1.aH ([]:List ab)),v5.2.2.1,())) fun j6=>bif (decide (((v1.2.2.2.1.length:Nat):Int)=0))then(bF v1.2.1 a0).bind fun p15=>j6 (p15.2,(ab.mk v1.2.2.1.aM [p15.1] ([]:List ab)),v1.2.2.2.2.1,())else j6 (v1.2.1,(ab.mk v1.2.2.1.aM v1.2.2.2.1 ([]:List ab)),v1.2.2.2.2.1,()))) (0,s,(ab.mk 0 ([]:List Int) ([]:List ab)),([]:List Int),([]:List ab),())
def tB:=kr func35 0 y9 [t0] (.one y3) (fun s a=>ke s a.1) [] (p_ 2 3 (.b (p_ 2 1 (.ps (.tu 5 1 3 1 y0) (.ps (.tu 5 2 41 3 y3) (.j ⟨[.val 6 y0,.box 0 0 y9 [],.box 2 1 y3 [(1,4,1),(2,5,1)],.eR 4 1 3 1 y0,.eR 5 1 41 3 y3],[0,1,4,5]⟩ (p_ 2 2 (.j ⟨[.box 0 0 y9 [],.box 2 1 y3 [(1,4,1),(2,5,1)],.eR 4 1 3 1 y0,.eR 5 1 41 3 y3],[0,1,4,5,6]⟩ .e)))))) (.ps (.Ax 5 1) (.j ⟨[.box 0 0 y9 [],.box 2 1 y3 [(2,5,1)],.eR 5 1 41 3 y3],[0,1,4,5]⟩ (.r (.j ⟨[.box 0 0 y9 [],.box 2 1 y3 [(2,5,1)],.eR 5 1 41 3 y3],[0,4,5]⟩ (p_ 3 7 (.j ⟨[.box 0 0 y9 [],.box 2 1 y3 [(2,5,1)],.eR 5 1 41 3 y3],[4,5]⟩ .e)))))))) [js,mi]
def oJ(s:cr):Option (ao×cr):=(cD s 1 6).bind fun p1=>(gZ p1.2).bind fun p2=>some ((ao.mk p1.1 p2.1),p2.2)
def JZ:=kr func176 0 y9 [] (.one y5) (fun s a=>oJ s) [] .e [mi,tA]
noncomputable def Jt:SA U:=iN (mI prog 20 [] f93) (.r (.r (.l (.r (.l (.j ⟨[.val 3 y0,.val 9 y0],[7,8]⟩ .e))))))
noncomputable def CW(rec:(ab×Unit)->Option Int)(a0:ab):Option Int:=aD (fun(v1:Int×Int×Unit)=>bif (decide (v1.2.1<((a0.aL.length:Nat):Int)))then(idx a0.aL v1.2.1).bind fun x2=>(rec ((ae x2),())).bind fun r3=>some (Sum.inl ((bV v1.1 r3),(aB .i64 v1.2.1 1),()))else oR (some (aB .i64 v1.1 1))) (0,0,())
noncomputable def Mf:Nat->(ab×Unit)->Option Int:=iV (fun rec a=>CW rec a.1)
def xx(a0:ab):Option Int:=Mf (SizeOf.sizeOf a0+1) (a0,())
noncomputable def L9:KS U prog:=⟨.fn 93 [t3] q0 fun a=>xx a.1,xu (K:=K) (A_s:=[t3]) (r:= .one y0) (B:=fun rec a=>CW rec a.1) Jt 20 [.tmp 2] [] (fk f93 [] func93) (hF:=fun a=>⟨_,rfl⟩)⟩
noncomputable def LF:SA U:=iN (mI prog 26 [] f94) (.r (.r (.l (.r (.l (.j ⟨[.val 3 y0,.val 16 y0],[14,15]⟩ .e))))))
noncomputable def EI(rec:(ab×Unit)->Option Int)(a0:ab):Option Int:=aD (fun(v1:Int×Int×Unit)=>bif (decide (v1.2.1<((a0.aL.length:Nat):Int)))then(idx a0.aL v1.2.1).bind fun x2=>(rec ((ae x2),())).bind fun r3=>some (Sum.inl ((aB .i64 v1.1 r3),(aB .i64 v1.2.1 1),()))else oR (some v1.1)) ((aB .i64 ((a0.aH.length:Nat):Int) ((a0.aL.length:Nat):Int)),0,())
noncomputable def Pb:Nat->(ab×Unit)->Option Int:=iV (fun rec a=>EI rec a.1)
def zu(a0:ab):Option Int:=Pb (SizeOf.sizeOf a0+1) (a0,())
noncomputable def N9:KS U prog:=⟨.fn 94 [t3] q0 fun a=>zu a.1,xu (K:=K) (A_s:=[t3]) (r:= .one y0) (B:=fun rec a=>EI rec a.1) LF 26 [.tmp 2] [] (fk f94 [] func94) (hF:=fun a=>⟨_,rfl⟩)⟩
noncomputable def eD(a0:Int):Option Bool:=(bif (decide (0<=a0))then some (decide (a0<=1023))else some false).bind fun b1=>some b1
def mN:=kf func218 [t0] q1 (u1 eD) [] .e []
def jn(a0:Int)(a1:Int):Option Bool:=(eD a0).bind fun r1=>(bif r1 then some (decide (0<=a1))else some false).bind fun b2=>(bif b2 then some (decide (a1<10))else some false).bind fun b3=>(bif b3 then if a1<0 then none else some (decide ((qQ .i64 (oi .i64 a0 a1) 1)=1))else some false).bind fun b4=>some b4
def nH:=kf func178 [t0,t0] q1 (u2 jn) [] .e [mN]
def vt(a0:(List Int)):Option (Int×Int×Unit):=aD (fun(v1:Int×Int×Unit)=>bif (decide (v1.2.1<((a0.length:Nat):Int)))then(idx a0 v1.2.1).bind fun x2=>(bif (decide (x2<0))then some true else some (decide (10<=x2))).bind fun b3=>bif b3 then oR (some (0,5,()))else(jn v1.1 x2).bind fun r4=>bif r4 then oR (some (0,6,()))else if x2<0 then none else some (Sum.inl ((qy .i64 v1.1 (cP .i64 1 x2)),(aB .i64 v1.2.1 1),()))else oR (some (v1.1,0,()))) (0,0,())
def Tk:=kf func139 [t12] (.many [y0,y0]) (u1 vt) [] (p_ 5 11 (.j ⟨[.val 4 y0,.val 9 y0],[7,8]⟩ .e)) [nH]
noncomputable def Js:SA U:=iN (mI prog 61 [] f95) (.r (.r (.b (.r (.l (.j ⟨[.val 28 y0],[1,26,27]⟩ .e))) (.r (.l (.r (.l (.j ⟨[.val 51 y0],[49,50]⟩ .e))))))))
def ly(rec:(ab×Unit)->Option Int)(a0:ab):Option Int:=(bif (decide (a0.aM<1))then some true else some (decide ((aB .i64 ((a0.aH.length:Nat):Int) ((a0.aL.length:Nat):Int))<a0.aM))).bind fun b1=>bif b1 then some 4 else aD (fun(v2:Int×Unit)=>bif (decide (v2.1<((a0.aH.length:Nat):Int)))then(idx a0.aH v2.1).bind fun x3=>(bif (decide (x3<0))then some true else some (decide (10<=x3))).bind fun b4=>bif b4 then oR (some 5)else some (Sum.inl ((aB .i64 v2.1 1),()))else oR ((vt a0.aH).bind fun r5=>bif (!decide (r5.2.1=0))then some r5.2.1 else aD (fun(v6:Int×Unit)=>bif (decide (v6.1<((a0.aL.length:Nat):Int)))then(idx a0.aL v6.1).bind fun x7=>(rec ((ae x7),())).bind fun r8=>bif (!decide (r8=0))then oR (some r8)else some (Sum.inl ((aB .i64 v6.1 1),()))else oR (some 0)) (0,()))) (0,())
noncomputable def mP:Nat->(ab×Unit)->Option Int:=iV (fun rec a=>ly rec a.1)
def pN(a0:ab):Option Int:=mP (SizeOf.sizeOf a0+1) (a0,())
noncomputable def L8:KS U prog:=⟨.fn 95 [t3] q0 fun a=>pN a.1,xu (K:=K) (A_s:=[t3]) (r:= .one y0) (B:=fun rec a=>ly rec a.1) Js 61 [.tmp 2] [Tk] (fk f95 [] func95) (hF:=fun a=>⟨_,rfl⟩)⟩
def cn(a0:ab):Option Int:=(xx (ae a0)).bind fun r1=>(bif (decide (4<r1))then some true else(zu (ae a0)).bind fun r2=>some (decide (200<r2))).bind fun b3=>bif b3 then some 3 else(pN (ae a0)).bind fun r4=>some r4
def dh:=kf func44 [t3] q0 (u1 cn) [] .e [L9,N9,L8]
noncomputable def hZ(a0:ao):Option Bool:=(bif (decide (1<=a0.an))then some (decide (a0.an<=1000))else some false).bind fun b1=>(bif b1 then some true else some (decide (a0.an=1000000))).bind fun b2=>(bif b2 then some (decide (1<=((ByteArray.size a0.Value:Nat):Int)))else some false).bind fun b3=>(bif b3 then some (decide (((ByteArray.size a0.Value:Nat):Int)<=200))else some false).bind fun b4=>some b4
def xr:=kf func213 [t5] q1 (u1 hZ) [] .e []
noncomputable def bL(a0:ao):Option Bool:=some (ml false a0.an 0 a0.Value (ByteArray.mk #[]))
def dc:=kf func207 [t5] q1 (u1 bL) [] .e []
noncomputable def lC(a0:ByteArray)(a1:ByteArray):Option Bool:=bif (!decide (((ByteArray.size a0:Nat):Int)=((ByteArray.size a1:Nat):Int)))then some (decide (((ByteArray.size a0:Nat):Int)<((ByteArray.size a1:Nat):Int)))else some (mA a0 a1)
def xy:=kf func239 [t2,t2] q1 (u2 lC) [] .e []
def eF(a0:ao)(a1:ao):Option Bool:=bif (!decide (a0.an=a1.an))then some (decide (a0.an<a1.an))else(lC a0.Value a1.Value).bind fun r1=>some r1
def iL:=kf func214 [t5,t5] q1 (u2 eF) [] .e [xy]
noncomputable def cC(a0:ao)(a1:ao):Option Bool:=some (decide (a0.Value=a1.Value))
def ep:=kf func215 [t5,t5] q1 (u2 cC) [] .e []
def ka(a0:ao)(a1:ao):Option Bool:=(bL a0).bind fun r1=>(bif (!r1)then(cC a0 a1).bind fun r2=>some r2 else some false).bind fun b3=>(bif b3 then some (decide (a1.an<=a0.an))else some false).bind fun b4=>some b4
def vT:=kf func240 [t5,t5] q1 (u2 ka) [] .e [dc,ep]
def gY(a0:ao)(a1:ao)(a2:ao):Option Bool:=(ka a0 a2).bind fun r1=>(bif r1 then some true else(ka a1 a2).bind fun r2=>some r2).bind fun b3=>(bif b3 then some true else(bL a1).bind fun r4=>(bif (!r4)then(eF a2 a1).bind fun r5=>some r5 else some false).bind fun b6=>some b6).bind fun b7=>some b7
def o0:=kf func216 [t5,t5,t5] q1 (u3 gY) [] .e [vT,dc,iL]
def fu(a0:ao)(a1:ao):Option Bool:=(bL a0).bind fun r1=>(bif (!r1)then(cC a0 a1).bind fun r2=>some (!r2)else some false).bind fun b3=>(bif b3 then(eF a1 a0).bind fun r4=>some r4 else some false).bind fun b5=>some b5
def vU:=kf func217 [t5,t5] q1 (u2 fu) [] .e [dc,ep,iL]
def cJ(a0:ak):Option Bool:=(bif (decide (a0.aq<0))then some true else some (decide (9<a0.aq))).bind fun b1=>(bif b1 then some true else some (decide (a0.aE<1))).bind fun b2=>(bif b2 then some true else some (decide (1000000<a0.aE))).bind fun b3=>(bif b3 then some true else some (decide (a0.aO<1))).bind fun b4=>(bif b4 then some true else some (decide (1000000<a0.aO))).bind fun b5=>(bif b5 then some true else(cn (ae a0.aa)).bind fun r6=>some (!decide (r6=0))).bind fun b7=>(bif b7 then some true else(hZ a0.aj).bind fun r8=>some (!r8)).bind fun b9=>bif b9 then some false else(bL a0.av).bind fun r10=>bif (decide (a0.az=1))then(bif (decide (1000<a0.aj.an))then some true else(bif (!r10)then(hZ a0.av).bind fun r11=>some (!r11)else some false).bind fun b12=>some b12).bind fun b13=>bif b13 then some false else(bL a0.aJ).bind fun r14=>(bif (!r14)then(bif r10 then some true else(hZ a0.aJ).bind fun r15=>some (!r15)).bind fun b16=>(bif b16 then some true else(eF a0.aJ a0.av).bind fun r17=>some (!r17)).bind fun b18=>(bif b18 then some true else(cC a0.aJ a0.av).bind fun r19=>some r19).bind fun b20=>some b20 else some false).bind fun b21=>bif b21 then some false else(bif (decide (a0.bf<0))then some true else some (decide (a0.bM<a0.bf))).bind fun b22=>(bif b22 then some true else some (decide (a0.aj.an<a0.bM))).bind fun b23=>bif b23 then some false else(bif (decide (0<a0.bM))then(gY a0.av a0.aJ (ao.mk a0.bM a0.aj.Value)).bind fun r24=>some (!r24)else some false).bind fun b25=>bif b25 then some false else(bif (decide (a0.bf=0))then some true else(fu a0.av (ao.mk a0.bf a0.aj.Value)).bind fun r26=>(bif (!r26)then(fu a0.aJ (ao.mk a0.bf a0.aj.Value)).bind fun r27=>some (!r27)else some false).bind fun b28=>some b28).bind fun b29=>some b29 else bif (decide (a0.az=2))then(bif (decide (a0.aj.an<=1000))then(hZ a0.av).bind fun r30=>some r30 else some false).bind fun b31=>(bif b31 then(cC a0.av a0.aj).bind fun r32=>some r32 else some false).bind fun b33=>(bif b33 then(bL a0.aJ).bind fun r34=>some r34 else some false).bind fun b35=>(bif b35 then some (decide (1<=a0.bf))else some false).bind fun b36=>(bif b36 then some (decide (a0.bf<=a0.bM))else some false).bind fun b37=>(bif b37 then some (decide (a0.bM<=a0.av.an))else some false).bind fun b38=>(bif b38 then some (decide (a0.bM<=1000))else some false).bind fun b39=>some b39 else bif (decide (a0.az=3))then(bif r10 then(bL a0.aJ).bind fun r40=>some r40 else some false).bind fun b41=>(bif b41 then some (decide (1<=a0.bf))else some false).bind fun b42=>(bif b42 then some (decide (a0.bf<=a0.bM))else some false).bind fun b43=>(bif b43 then some (decide (a0.bM<=1000))else some false).bind fun b44=>some b44 else some false
def eV:=kf func177 [t11] q1 (u1 cJ) [] .e [dh,xr,dc,iL,ep,o0,vU]
def mE(s:cr)(a0:Int)(a1:Int)(a2:Int):Option (ak×cr):=(cD s 1 9).bind fun p1=>(ke p1.2 a2).bind fun p2=>(gZ p2.2).bind fun p3=>bm (fun(v4:cr×ak×Unit)=>some ({v4.2.1 with aa:=(ae v4.2.1.aa)},v4.1)) fun j5=>(bF p3.2 4).bind fun p6=>bm (fun(v7:cr×ak×Unit)=>bm (fun(v9:cr×ak×Unit)=>j5 (v9.1,{v9.2.1 with aa:=(ae v9.2.1.aa)},())) fun j10=>(cD v7.1 1 7).bind fun p11=>bm (fun(v12:cr×ak×Unit)=>(bF v12.1 (aB .i64 v12.2.1.aj.an 1)).bind fun p14=>(bF p14.2 (aB .i64 p14.1 1)).bind fun p15=>bm (fun(v16:ak×Unit)=>bm (fun(v18:ak×Unit)=>(cJ {v18.1 with aa:=(ae v18.1.aa)}).bind fun r20=>bif (!r20)then j10 (p15.2,{v18.1 with aa:=(ae v18.1.aa),aJ:=zB},())else j10 (p15.2,{v18.1 with aa:=(ae v18.1.aa)},())) fun j19=>(cJ {v16.1 with aa:=(ae v16.1.aa)}).bind fun r21=>bif (!r21)then j19 ({v16.1 with aa:=(ae v16.1.aa),bM:=0},())else j19 ({v16.1 with aa:=(ae v16.1.aa)},())) fun j17=>(cJ {v12.2.1 with aa:=(ae v12.2.1.aa),bf:=p15.1,bM:=p14.1}).bind fun r22=>bif (!r22)then j17 ({v12.2.1 with aa:=(ae v12.2.1.aa),bf:=0,bM:=p14.1},())else j17 ({v12.2.1 with aa:=(ae v12.2.1.aa),bf:=p15.1,bM:=p14.1},())) fun j13=>(bF p11.2 3).bind fun p23=>bif (decide (0<p23.1))then(oJ p23.2).bind fun p24=>(bF p24.2 2).bind fun p25=>bif (decide (p25.1=1))then(oJ p25.2).bind fun p26=>j13 (p26.2,{v7.2.1 with aa:=(ae v7.2.1.aa),az:=1,aj:=(ao.mk p11.1 p3.1),av:=p24.1,aJ:=p26.1},())else j13 (p25.2,{v7.2.1 with aa:=(ae v7.2.1.aa),az:=1,aj:=(ao.mk p11.1 p3.1),av:=p24.1},())else j13 (p23.2,{v7.2.1 with aa:=(ae v7.2.1.aa),az:=1,aj:=(ao.mk p11.1 p3.1)},())) fun j8=>bif (decide (p6.1=0))then(cD p6.2 1 7).bind fun p27=>(cD p27.2 1 4).bind fun p28=>(bF p28.2 3).bind fun p29=>(bF p29.2 3).bind fun p30=>j5 (p30.2,(ak.mk a0 a1 p1.1 (ae p2.1) 2 (ao.mk p27.1 p3.1) (ao.mk (aB .i64 (aB .i64 p28.1 p29.1) p30.1) p3.1) zB p28.1 (aB .i64 p28.1 p29.1)),())else bif (decide (p6.1=1))then(bF p6.2 3).bind fun p31=>bif (decide (0<p31.1))then(cD p31.2 1 7).bind fun p32=>(cD p32.2 1 4).bind fun p33=>(bF p33.2 3).bind fun p34=>j5 (p34.2,(ak.mk a0 a1 p1.1 (ae p2.1) 3 (ao.mk p32.1 p3.1) zB zB p33.1 (aB .i64 p33.1 p34.1)),())else j8 (p31.2,(ak.mk a0 a1 p1.1 (ae p2.1) 0 zB zB zB 0 0),())else j8 (p6.2,(ak.mk a0 a1 p1.1 (ae p2.1) 0 zB zB zB 0 0),())
def C5:=kr func138 0 y9 [t0,t0,t0] (.one y11) (fun s a=>mE s a.1 a.2.1 a.2.2.1) [] (p_ 3 7 (.j ⟨[.box 0 0 y9 [],.box 10 1 y11 []],[8,9]⟩ (p_ 3 2 (.j ⟨[.box 0 0 y9 [],.box 10 1 y11 []],[0,8,9,10]⟩ (.r (.j ⟨[.box 0 0 y9 [],.box 10 1 y11 []],[8,9]⟩ (p_ 2 2 (.j ⟨[.box 0 0 y9 [],.box 10 1 y11 []],[0,8,9]⟩ (p_ 3 7 (.j ⟨[.box 10 1 y11 []],[8,9]⟩ (.r (.j ⟨[.box 10 1 y11 []],[8,9]⟩ .e)))))))))))) [mi,tB,tA,js,JZ,eV]
noncomputable def wO(a0:Int)(a1:Int)(a2:Int)(a3:ByteArray):Option aI:=some (aI.mk 5 a0 a1 0 0 (ByteArray.mk #[]) (ab.mk 0 ([]:List Int) ([]:List ab)) (aQ.mk 2 a2 (ax.mk 0 0 (ab.mk 0 ([]:List Int) ([]:List ab)) ([]:List ByteArray) ([]:List ByteArray)) (ak.mk a0 a2 1 (ab.mk 1 [a0] ([]:List ab)) 3 (ao.mk 1 a3) zB zB 1 1)) ([]:List Int))
def Gk:=kf func96 [t0,t0,t0,t2] (.one y6) (u4 wO) [] .e []
def nB(s:cr)(a0:Int)(a1:Int):Option (aI×cr):=(bF s a0).bind fun p1=>bm (fun(v2:cr×aI×Unit)=>(cD v2.1 1 3).bind fun p4=>some ((aI.mk 2 0 0 0 p4.1 (ByteArray.mk #[]) (ab.mk 0 ([]:List Int) ([]:List ab)) (aQ.mk 0 0 (ax.mk 0 0 (ab.mk 0 ([]:List Int) ([]:List ab)) ([]:List ByteArray) ([]:List ByteArray)) (ak.mk 0 0 0 (ab.mk 0 ([]:List Int) ([]:List ab)) 0 zB zB zB 0 0)) ([]:List Int)),p4.2)) fun j3=>(bF p1.2 9).bind fun p5=>bif (decide (p5.1=0))then(cD p5.2 1 2).bind fun p6=>(gZ p6.2).bind fun p7=>some ((aI.mk 1 p1.1 0 p6.1 0 p7.1 (ab.mk 0 ([]:List Int) ([]:List ab)) (aQ.mk 0 0 (ax.mk 0 0 (ab.mk 0 ([]:List Int) ([]:List ab)) ([]:List ByteArray) ([]:List ByteArray)) (ak.mk 0 0 0 (ab.mk 0 ([]:List Int) ([]:List ab)) 0 zB zB zB 0 0)) ([]:List Int)),p7.2)else bm (fun(v8:Bool×Unit)=>bif v8.1 then(gZ p5.2).bind fun p10=>some ((aI.mk 8 p1.1 0 1 0 p10.1 (ab.mk 0 ([]:List Int) ([]:List ab)) (aQ.mk 0 0 (ax.mk 0 0 (ab.mk 0 ([]:List Int) ([]:List ab)) ([]:List ByteArray) ([]:List ByteArray)) (ak.mk 0 0 0 (ab.mk 0 ([]:List Int) ([]:List ab)) 0 zB zB zB 0 0)) ([]:List Int)),p10.2)else bif (decide (p5.1=3))then(bF p5.2 3).bind fun p11=>bif (decide (p11.1=0))then if(bI .u64 a0)<0 then none else(bF p11.2 (ez .i64 (cP .i64 1 (bI .u64 a0)) 1)).bind fun p12=>some ((aI.mk 6 0 0 0 0 (ByteArray.mk #[]) (ab.mk 0 ([]:List Int) ([]:List ab)) (aQ.mk 0 0 (ax.mk 0 0 (ab.mk 0 ([]:List Int) ([]:List ab)) ([]:List ByteArray) ([]:List ByteArray)) (ak.mk 0 0 0 (ab.mk 0 ([]:List Int) ([]:List ab)) 0 zB zB zB 0 0)) [(aB .i64 1 p12.1)]),p12.2)else some ((aI.mk 6 0 0 0 0 (ByteArray.mk #[]) (ab.mk 0 ([]:List Int) ([]:List ab)) (aQ.mk 0 0 (ax.mk 0 0 (ab.mk 0 ([]:List Int) ([]:List ab)) ([]:List ByteArray) ([]:List ByteArray)) (ak.mk 0 0 0 (ab.mk 0 ([]:List Int) ([]:List ab)) 0 zB zB zB 0 0)) ([]:List Int)),p11.2)else bif (decide (p5.1=4))then(bF p5.2 a0).bind fun p13=>(bF p13.2 5).bind fun p14=>some ((aI.mk 7 p1.1 p13.1 0 p14.1 (ByteArray.mk #[]) (ab.mk 0 ([]:List Int) ([]:List ab)) (aQ.mk 0 0 (ax.mk 0 0 (ab.mk 0 ([]:List Int) ([]:List ab)) ([]:List ByteArray) ([]:List ByteArray)) (ak.mk 0 0 0 (ab.mk 0 ([]:List Int) ([]:List ab)) 0 zB zB zB 0 0)) ([]:List Int)),p14.2)else bif (decide (p5.1=5))then(bF p5.2 4).bind fun p15=>bif (decide (p15.1=0))then some ((aI.mk 4 p1.1 0 0 0 (ByteArray.mk #[]) (ab.mk 0 ([]:List Int) ([]:List ab)) (aQ.mk 0 0 (ax.mk 0 0 (ab.mk 0 ([]:List Int) ([]:List ab)) ([]:List ByteArray) ([]:List ByteArray)) (ak.mk 0 0 0 (ab.mk 0 ([]:List Int) ([]:List ab)) 0 zB zB zB 0 0)) ([]:List Int)),p15.2)else(cD p15.2 1 4).bind fun p16=>some ((aI.mk 2 0 0 0 p16.1 (ByteArray.mk #[]) (ab.mk 0 ([]:List Int) ([]:List ab)) (aQ.mk 0 0 (ax.mk 0 0 (ab.mk 0 ([]:List Int) ([]:List ab)) ([]:List ByteArray) ([]:List ByteArray)) (ak.mk 0 0 0 (ab.mk 0 ([]:List Int) ([]:List ab)) 0 zB zB zB 0 0)) ([]:List Int)),p16.2)else bif (decide (p5.1=6))then if(bI .u64 p1.1)<0 then none else bif (decide ((qQ .i64 (oi .i64 a1 (bI .u64 p1.1)) 1)=1))then(mE p5.2 p1.1 1 a0).bind fun p17=>(bF p17.2 20).bind fun p18=>(bF p18.2 a0).bind fun p19=>some ((aI.mk 5 p1.1 p19.1 0 0 (ByteArray.mk #[]) (ab.mk 0 ([]:List Int) ([]:List ab)) (aQ.mk 2 1 (ax.mk 0 0 (ab.mk 0 ([]:List Int) ([]:List ab)) ([]:List ByteArray) ([]:List ByteArray)) {p17.1 with aO:=(aB .i64 p17.1.aO p18.1),aa:=(ae p17.1.aa)}) ([]:List Int)),p19.2)else(bF p5.2 4).bind fun p20=>bif (decide (p20.1=0))then(ke p20.2 a0).bind fun p21=>some ((aI.mk 3 p1.1 0 0 0 (ByteArray.mk #[]) (ae p21.1) (aQ.mk 0 0 (ax.mk 0 0 (ab.mk 0 ([]:List Int) ([]:List ab)) ([]:List ByteArray) ([]:List ByteArray)) (ak.mk 0 0 0 (ab.mk 0 ([]:List Int) ([]:List ab)) 0 zB zB zB 0 0)) ([]:List Int)),p21.2)else j3 (p20.2,(aI.mk 0 0 0 0 0 (ByteArray.mk #[]) (ab.mk 0 ([]:List Int) ([]:List ab)) (aQ.mk 0 0 (ax.mk 0 0 (ab.mk 0 ([]:List Int) ([]:List ab)) ([]:List ByteArray) ([]:List ByteArray)) (ak.mk 0 0 0 (ab.mk 0 ([]:List Int) ([]:List ab)) 0 zB zB zB 0 0)) ([]:List Int)),())else bif (decide (p5.1=7))then if(bI .u64 p1.1)<0 then none else bif (decide ((qQ .i64 (oi .i64 a1 (bI .u64 p1.1)) 1)=1))then(bF p5.2 a0).bind fun p22=>(gZ p22.2).bind fun p23=>(wO p1.1 p22.1 1 p23.1).bind fun r24=>some ({r24 with aa:=(ae r24.aa),af:={r24.af with al:={r24.af.al with aa:=(ae r24.af.al.aa)},ai:={r24.af.ai with aa:=(ae r24.af.ai.aa)}}},p23.2)else j3 (p5.2,(aI.mk 0 0 0 0 0 (ByteArray.mk #[]) (ab.mk 0 ([]:List Int) ([]:List ab)) (aQ.mk 0 0 (ax.mk 0 0 (ab.mk 0 ([]:List Int) ([]:List ab)) ([]:List ByteArray) ([]:List ByteArray)) (ak.mk 0 0 0 (ab.mk 0 ([]:List Int) ([]:List ab)) 0 zB zB zB 0 0)) ([]:List Int)),())else j3 (p5.2,(aI.mk 0 0 0 0 0 (ByteArray.mk #[]) (ab.mk 0 ([]:List Int) ([]:List ab)) (aQ.mk 0 0 (ax.mk 0 0 (ab.mk 0 ([]:List Int) ([]:List ab)) ([]:List ByteArray) ([]:List ByteArray)) (ak.mk 0 0 0 (ab.mk 0 ([]:List Int) ([]:List ab)) 0 zB zB zB 0 0)) ([]:List Int)),())) fun j9=>bif (decide (p5.1=1))then j9 ((decide (p5.1=1)),())else j9 ((decide (p5.1=2)),())
def IG:=kr func92 0 y9 [t0,t0] (.one y6) (fun s a=>nB s a.1 a.2.1) [] (p_ 2 3 (.j ⟨[.box 0 0 y9 [],.box 1 1 y6 []],[0,6]⟩ (p_ 5 26 (.j ⟨[.val 22 y1],[0,1,2,6,7,13]⟩ .e)))) [js,mi,tA,C5,tB,Gk]
def kg(s:cr)(a0:Int)(a1:Int)(a2:Int):Option ((List aI)×cr):=(bF s (aB .i64 a2 1)).bind fun p1=>aD (fun(v2:Int×(List aI)×cr×Unit)=>bif (decide (0<v2.1))then(nB v2.2.2.1 a0 a1).bind fun p3=>bif aT 448 (v2.2.1.length+List.length [{p3.1 with aa:=(ae p3.1.aa),af:={p3.1.af with al:={p3.1.af.al with aa:=(ae p3.1.af.al.aa)},ai:={p3.1.af.ai with aa:=(ae p3.1.af.ai.aa)}}}])then some (Sum.inl ((ez .i64 v2.1 1),(v2.2.1++[{p3.1 with aa:=(ae p3.1.aa),af:={p3.1.af with al:={p3.1.af.al with aa:=(ae p3.1.af.al.aa)},ai:={p3.1.af.ai with aa:=(ae p3.1.af.ai.aa)}}}]),p3.2,()))else none else oR (some (v2.2.1,v2.2.2.1))) (p1.1,([]:List aI),p1.2,())
def GZ:=kr func41 0 y9 [t0,t0,t0] (.one y23) (fun s a=>kg s a.1 a.2.1 a.2.2.1) [] (p_ 5 11 (.ps (.own 9 51 34 y6) (.j ⟨[.val 10 y0,.own 9 8 1 51 34 y6,.box 0 0 y9 []],[0,1,2]⟩ .e))) [js,IG]
def pc(s:cr)(a0:Int)(a1:Int)(a2:Int):Option ((List aI)×cr):=aD (fun(v1:Int×(List aI)×cr×Unit)=>bif (decide (v1.1<a0))then bm (fun(v2:(List aI)×cr×Unit)=>some (Sum.inl ((aB .i64 v1.1 1),v2.1,v2.2.1,()))) fun j3=>if(bI .u64 v1.1)<0 then none else bif (decide ((qQ .i64 (oi .i64 a1 (bI .u64 v1.1)) 1)=0))then(la v1.2.2.1 [(ByteArray.mk #[97]),(ByteArray.mk #[98])]).bind fun p4=>bif aT 448 (v1.2.1.length+List.length [(aI.mk 8 v1.1 0 1 0 p4.1 (ab.mk 0 ([]:List Int) ([]:List ab)) (aQ.mk 0 0 (ax.mk 0 0 (ab.mk 0 ([]:List Int) ([]:List ab)) ([]:List ByteArray) ([]:List ByteArray)) (ak.mk 0 0 0 (ab.mk 0 ([]:List Int) ([]:List ab)) 0 zB zB zB 0 0)) ([]:List Int))])then j3 ((v1.2.1++[(aI.mk 8 v1.1 0 1 0 p4.1 (ab.mk 0 ([]:List Int) ([]:List ab)) (aQ.mk 0 0 (ax.mk 0 0 (ab.mk 0 ([]:List Int) ([]:List ab)) ([]:List ByteArray) ([]:List ByteArray)) (ak.mk 0 0 0 (ab.mk 0 ([]:List Int) ([]:List ab)) 0 zB zB zB 0 0)) ([]:List Int))]),p4.2,())else none else j3 (v1.2.1,v1.2.2.1,())else oR ((kg v1.2.2.1 a0 a1 a2).bind fun p5=>bif aT 448 (v1.2.1.length+p5.1.length)then some ((v1.2.1++p5.1),p5.2)else none)) (0,([]:List aI),s,())
def G0:=kr func20 0 y9 [t0,t0,t0] (.one y23) (fun s a=>pc s a.1 a.2.1 a.2.2.1) [] (p_ 5 11 (.ps (.own 9 51 34 y6) (.j ⟨[.val 10 y0,.own 9 4 1 51 34 y6,.box 0 0 y9 []],[0,1,2,3]⟩ (p_ 2 2 (.j ⟨[.own 9 4 1 51 34 y6,.box 0 0 y9 []],[0,1,2,3,10]⟩ .e))))) [zR,GZ]
noncomputable def fO(a0:Int)(a1:Int)(a2:Int):Option Bool:=(bif (decide (a1<=a0))then some (decide (a0<=a2))else some false).bind fun b1=>some b1
def Th:=kf func42 [t0,t0,t0] q1 (u3 fO) [] .e []
noncomputable def uY(a0:ByteArray):Option Bool:=aD (fun(v1:Int×Unit)=>bif (decide (v1.1<((ByteArray.size a0:Nat):Int)))then(dY a0 v1.1).bind fun x2=>(bif (decide (97<=x2))then(dY a0 v1.1).bind fun x3=>some (decide (x3<=122))else some false).bind fun b4=>(bif b4 then some true else(dY a0 v1.1).bind fun x5=>(bif (decide (48<=x5))then(dY a0 v1.1).bind fun x6=>some (decide (x6<=57))else some false).bind fun b7=>some b7).bind fun b8=>bif (!b8)then oR (some false)else some (Sum.inl ((aB .i64 v1.1 1),()))else oR ((bif (decide (1<=((ByteArray.size a0:Nat):Int)))then some (decide (((ByteArray.size a0:Nat):Int)<=20))else some false).bind fun b9=>some b9)) (0,())
def NH:=kf func43 [t2] q1 (u1 uY) [] (p_ 4 5 (.j ⟨[.val 3 y0],[0]⟩ .e)) []
def wN(a0:Int)(a1:Int)(a2:Int)(a3:ByteArray):Option aI:=(wO a0 a1 a2 a3).bind fun r1=>some {r1 with aa:=(ae r1.aa),af:={r1.af with al:={r1.af.al with aa:=(ae r1.af.al.aa)},ai:={r1.af.ai with aa:=(ae r1.af.ai.aa)}}}
def PH:=kf func45 [t0,t0,t0,t2] (.one y6) (u4 wN) [] .e [Gk]
noncomputable def oH(a0:(List Int))(a1:(List Int)):Option Bool:=bif (!decide (((a0.length:Nat):Int)=((a1.length:Nat):Int)))then some false else aD (fun(v1:Int×Unit)=>bif (decide (v1.1<((a0.length:Nat):Int)))then(idx a0 v1.1).bind fun x2=>(idx a1 v1.1).bind fun x3=>bif (!decide (x2=x3))then oR (some false)else some (Sum.inl ((aB .i64 v1.1 1),()))else oR (some true)) (0,())
def Oa:=kf func91 [t12,t12] q1 (u2 oH) [] (p_ 5 11 (.j ⟨[.val 13 y0],[0,1,12]⟩ .e)) []
noncomputable def LG:SA U:=iN (mI prog 47 [] f40) (.r (.r (.l (.r (.l (.j ⟨[.val 31 y0],[2,3,30]⟩ .e))))))
def kM(rec:(ab×ab×Unit)->Option Bool)(a0:ab)(a1:ab):Option Bool:=(bif (!decide (a0.aM=a1.aM))then some true else(oH a0.aH a1.aH).bind fun r1=>some (!r1)).bind fun b2=>(bif b2 then some true else some (!decide (((a0.aL.length:Nat):Int)=((a1.aL.length:Nat):Int)))).bind fun b3=>bif b3 then some false else aD (fun(v4:Int×Unit)=>bif (decide (v4.1<((a0.aL.length:Nat):Int)))then(idx a0.aL v4.1).bind fun x5=>(idx a1.aL v4.1).bind fun x6=>(rec ((ae x5),(ae x6),())).bind fun r7=>bif (!r7)then oR (some false)else some (Sum.inl ((aB .i64 v4.1 1),()))else oR (some true)) (0,())
noncomputable def kK:Nat->(ab×ab×Unit)->Option Bool:=iV (fun rec a=>kM rec a.1 a.2.1)
def dy(a0:ab)(a1:ab):Option Bool:=kK (SizeOf.sizeOf a0+SizeOf.sizeOf a1+1) (a0,a1,())
noncomputable def eX:KS U prog:=⟨.fn 40 [t3,t3] q1 fun a=>dy a.1 a.2.1,xu (K:=K) (A_s:=[t3,t3]) (r:= .one y1) (B:=fun rec a=>kM rec a.1 a.2.1) LG 47 [.tmp 4] [Oa] (fk f40 [] func40) (hF:=fun a=>⟨_,rfl⟩)⟩
def iS(a0:ak)(a1:ak):Option Bool:=(bif (decide (a0.aq=a1.aq))then some (decide (a0.aE=a1.aE))else some false).bind fun b1=>(bif b1 then some (decide (a0.aO=a1.aO))else some false).bind fun b2=>(bif b2 then(dy (ae a0.aa) (ae a1.aa)).bind fun r3=>some r3 else some false).bind fun b4=>(bif b4 then some (decide (a0.az=a1.az))else some false).bind fun b5=>(bif b5 then some (ml false a0.aj.an a1.aj.an a0.aj.Value a1.aj.Value)else some false).bind fun b6=>(bif b6 then some (ml false a0.av.an a1.av.an a0.av.Value a1.av.Value)else some false).bind fun b7=>(bif b7 then some (ml false a0.aJ.an a1.aJ.an a0.aJ.Value a1.aJ.Value)else some false).bind fun b8=>(bif b8 then some (decide (a0.bf=a1.bf))else some false).bind fun b9=>(bif b9 then some (decide (a0.bM=a1.bM))else some false).bind fun b10=>some b10
def yM:=kf func153 [t11,t11] q1 (u2 iS) [] .e [eX]
noncomputable def lU(a0:(List ByteArray))(a1:(List ByteArray)):Option Bool:=bif (!decide (((a0.length:Nat):Int)=((a1.length:Nat):Int)))then some false else aD (fun(v1:Int×Unit)=>bif (decide (v1.1<((a0.length:Nat):Int)))then(idx a0 v1.1).bind fun x2=>(idx a1 v1.1).bind fun x3=>bif (!decide (x2=x3))then oR (some false)else some (Sum.inl ((aB .i64 v1.1 1),()))else oR (some true)) (0,())
def JM:=kf func188 [t15,t15] q1 (u2 lU) [] (p_ 5 11 (.j ⟨[.val 13 y0],[0,1,12]⟩ .e)) []
def jg(a0:ax)(a1:ax):Option Bool:=(bif (decide (a0.aq=a1.aq))then some (decide (a0.aO=a1.aO))else some false).bind fun b1=>(bif b1 then(dy (ae a0.aa) (ae a1.aa)).bind fun r2=>some r2 else some false).bind fun b3=>(bif b3 then(lU a0.cx a1.cx).bind fun r4=>some r4 else some false).bind fun b5=>(bif b5 then(lU a0.bo a1.bo).bind fun r6=>some r6 else some false).bind fun b7=>some b7
def DW:=kf func154 [.ty y18,.ty y18] q1 (u2 jg) [] .e [eX,JM]
def rV(a0:aQ)(a1:aQ):Option Bool:=(bif (decide (a0.az=a1.az))then some (decide (a0.aE=a1.aE))else some false).bind fun b1=>(bif b1 then(iS {a0.ai with aa:=(ae a0.ai.aa)} {a1.ai with aa:=(ae a1.ai.aa)}).bind fun r2=>some r2 else some false).bind fun b3=>(bif b3 then(jg {a0.al with aa:=(ae a0.al.aa)} {a1.al with aa:=(ae a1.al.aa)}).bind fun r4=>some r4 else some false).bind fun b5=>some b5
def JO:=kf func110 [.ty y19,.ty y19] q1 (u2 rV) [] .e [yM,DW]
def jY(a0:aQ)(a1:aQ):Option Bool:=(rV {a0 with al:={a0.al with aa:=(ae a0.al.aa)},ai:={a0.ai with aa:=(ae a0.ai.aa)}} {a1 with al:={a1.al with aa:=(ae a1.al.aa)},ai:={a1.ai with aa:=(ae a1.ai.aa)}}).bind fun r1=>some r1
def Bc:=kf func62 [.ty y19,.ty y19] q1 (u2 jY) [] .e [JO]
noncomputable def mu(a0:(List Int))(a1:(List Int)):Option Bool:=bif (!decide (((a0.length:Nat):Int)=((a1.length:Nat):Int)))then some false else aD (fun(v1:Int×Unit)=>bif (decide (v1.1<((a0.length:Nat):Int)))then(idx a0 v1.1).bind fun x2=>(idx a1 v1.1).bind fun x3=>bif (!decide (x2=x3))then oR (some false)else some (Sum.inl ((aB .i64 v1.1 1),()))else oR (some true)) (0,())
def DV:=kf func63 [t12,t12] q1 (u2 mu) [] (p_ 5 11 (.j ⟨[.val 13 y0],[0,1,12]⟩ .e)) []
def lq(a0:aI)(a1:aI):Option Bool:=(bif (decide (a0.az=a1.az))then some (decide (a0.aq=a1.aq))else some false).bind fun b1=>(bif b1 then some (decide (a0.To=a1.To))else some false).bind fun b2=>(bif b2 then some (decide (a0.aE=a1.aE))else some false).bind fun b3=>(bif b3 then some (decide (a0.Count=a1.Count))else some false).bind fun b4=>(bif b4 then some (decide (a0.Value=a1.Value))else some false).bind fun b5=>(bif b5 then(dy (ae a0.aa) (ae a1.aa)).bind fun r6=>some r6 else some false).bind fun b7=>(bif b7 then(jY {a0.af with al:={a0.af.al with aa:=(ae a0.af.al.aa)},ai:={a0.af.ai with aa:=(ae a0.af.ai.aa)}} {a1.af with al:={a1.af.al with aa:=(ae a1.af.al.aa)},ai:={a1.af.ai with aa:=(ae a1.af.ai.aa)}}).bind fun r8=>some r8 else some false).bind fun b9=>(bif b9 then(mu a0.bx a1.bx).bind fun r10=>some r10 else some false).bind fun b11=>some b11
def LN:=kf func30 [t6,t6] q1 (u2 lq) [] .e [eX,Bc,DV]
noncomputable def tK(a0:Int):Option ByteArray:=aD (fun(v1:Int×ByteArray×Unit)=>bif (decide (9<v1.1))then(Bo [(bI .u8 (aB .u64 48 (Du .u64 v1.1 10)))]).bind fun x2=>(cy (ByteArray.mk (List.toArray x2)) v1.2.1).bind fun x3=>some (Sum.inl ((yw .u64 v1.1 10),x3,()))else oR ((Bo [(bI .u8 (aB .u64 48 v1.1))]).bind fun x4=>(cy (ByteArray.mk (List.toArray x4)) v1.2.1).bind fun x5=>some x5)) (a0,(ByteArray.mk #[]),())
def GR:=kf func140 [.ty (Ty.i .u64)] q2 (u1 tK) [] (p_ 4 3 (.j ⟨[.val 0 (Ty.i .u64),.val 3 y2],[]⟩ .e)) []
def cL(a0:Int):Option ByteArray:=bif (decide (a0<0))then(tK (ez .u64 0 (bI .u64 a0))).bind fun r1=>(cy (ByteArray.mk #[45]) r1).bind fun x2=>some x2 else(tK (bI .u64 a0)).bind fun r3=>some r3
def Io:=kf func97 [t0] q2 (u1 cL) [] .e [GR]
noncomputable def eW(a0:Int):Option ByteArray:=zU a0
noncomputable def vR:KS U prog:=⟨.fn 111 [t0] q2 fun a=>eW a.1,abY⟩
noncomputable def LC:SA U:=iN (mI prog 43 [] f141) (.r (.r (.r (.b (.r (.l (.j ⟨[.val 3 y2,.val 4 y2,.val 16 y0],[1,14,15]⟩ .e))) (.l (.r (.l (.j ⟨[.val 3 y2,.val 4 y2,.val 30 y0],[28,29]⟩ .e))))))))
def vA(rec:(ab×Unit)->Option ByteArray)(a0:ab):Option ByteArray:=(eW a0.aM).bind fun r1=>(cy r1 (ByteArray.mk #[32,111,102,32,40])).bind fun x2=>aD (fun(v3:ByteArray×ByteArray×Int×Unit)=>bif (decide (v3.2.2.1<((a0.aH.length:Nat):Int)))then(idx a0.aH v3.2.2.1).bind fun x4=>(cy v3.1 v3.2.1).bind fun x5=>(eW x4).bind fun r6=>(cy x5 r6).bind fun x7=>some (Sum.inl (x7,(ByteArray.mk #[44,32]),(aB .i64 v3.2.2.1 1),()))else oR (aD (fun(v8:ByteArray×ByteArray×Int×Unit)=>bif (decide (v8.2.2.1<((a0.aL.length:Nat):Int)))then(idx a0.aL v8.2.2.1).bind fun x9=>(cy v8.1 v8.2.1).bind fun x10=>(rec ((ae x9),())).bind fun r11=>(cy x10 r11).bind fun x12=>some (Sum.inl (x12,(ByteArray.mk #[44,32]),(aB .i64 v8.2.2.1 1),()))else oR ((cy v8.1 (ByteArray.mk #[41])).bind fun x13=>some x13)) (v3.1,v3.2.1,0,()))) (x2,(ByteArray.mk #[]),0,())
noncomputable def qS:Nat->(ab×Unit)->Option ByteArray:=iV (fun rec a=>vA rec a.1)
def EH(a0:ab):Option ByteArray:=qS (SizeOf.sizeOf a0+1) (a0,())
noncomputable def N7:KS U prog:=⟨.fn 141 [t3] q2 fun a=>EH a.1,xu (K:=K) (A_s:=[t3]) (r:= .one y2) (B:=fun rec a=>vA rec a.1) LC 43 [.tmp 2] [vR] (fk f141 [] func141) (hF:=fun a=>⟨_,rfl⟩)⟩
def vq(a0:ab):Option ByteArray:=(cn (ae a0)).bind fun r1=>bif (!decide (r1=0))then some (ByteArray.mk #[63])else(EH (ae a0)).bind fun r2=>some r2
def N8:=kf func98 [t3] q2 (u1 vq) [] .e [dh,N7]
def uX(a0:aI):Option ByteArray:=bif (decide (a0.az=1))then(cL a0.aq).bind fun r1=>(cy (ByteArray.mk #[112,114,111,112,111,115,101,32]) r1).bind fun x2=>(cy x2 (ByteArray.mk #[32])).bind fun x3=>(cL a0.aE).bind fun r4=>(cy x3 r4).bind fun x5=>(cy x5 (ByteArray.mk #[32])).bind fun x6=>(cy x6 a0.Value).bind fun x7=>some x7 else bif (decide (a0.az=8))then(cL a0.aq).bind fun r8=>(cy (ByteArray.mk #[112,114,101,102,101,114,32]) r8).bind fun x9=>(cy x9 (ByteArray.mk #[32])).bind fun x10=>(cL a0.aE).bind fun r11=>(cy x10 r11).bind fun x12=>(cy x12 (ByteArray.mk #[32])).bind fun x13=>(cy x13 a0.Value).bind fun x14=>some x14 else bif (decide (a0.az=2))then(cL a0.Count).bind fun r15=>(cy (ByteArray.mk #[116,105,99,107,32]) r15).bind fun x16=>some x16 else bif (decide (a0.az=4))then(cL a0.aq).bind fun r17=>(cy (ByteArray.mk #[115,116,111,112,32]) r17).bind fun x18=>some x18 else bif (decide (a0.az=7))then(cL a0.aq).bind fun r19=>(cy (ByteArray.mk #[100,101,108,97,121,32]) r19).bind fun x20=>(cy x20 (ByteArray.mk #[32])).bind fun x21=>(cL a0.To).bind fun r22=>(cy x21 r22).bind fun x23=>(cy x23 (ByteArray.mk #[32])).bind fun x24=>(cL a0.Count).bind fun r25=>(cy x24 r25).bind fun x26=>some x26 else bif (decide (a0.az=3))then(cL a0.aq).bind fun r27=>(cy (ByteArray.mk #[100,101,99,108,97,114,101,32]) r27).bind fun x28=>(cy x28 (ByteArray.mk #[32])).bind fun x29=>(vq (ae a0.aa)).bind fun r30=>(cy x29 r30).bind fun x31=>some x31 else bif (decide (a0.az=5))then(cL a0.aq).bind fun r32=>(cy (ByteArray.mk #[108,105,101,32]) r32).bind fun x33=>(cy x33 (ByteArray.mk #[32])).bind fun x34=>(cL a0.To).bind fun r35=>(cy x34 r35).bind fun x36=>(cy x36 (ByteArray.mk #[32])).bind fun x37=>(cL a0.af.aE).bind fun r38=>(cy x37 r38).bind fun x39=>(cy x39 (ByteArray.mk #[32])).bind fun x40=>(cy x40 a0.af.ai.aj.Value).bind fun x41=>some x41 else bif (decide (a0.az=6))then aD (fun(v42:ByteArray×Int×Unit)=>bif (decide (v42.2.1<((a0.bx.length:Nat):Int)))then(idx a0.bx v42.2.1).bind fun x43=>(cL x43).bind fun r44=>(cy (ByteArray.mk #[32]) r44).bind fun x45=>(cy v42.1 x45).bind fun x46=>some (Sum.inl (x46,(aB .i64 v42.2.1 1),()))else oR (some v42.1)) ((ByteArray.mk #[112,97,114,116]),0,())else some (ByteArray.mk #[])
def NG:=kf func46 [t6] q2 (u1 uX) [] (p_ 24 5767157 (.j ⟨[.val 3 y2,.val 106 y0],[104,105]⟩ .e)) [Io,N8]
def qT(a0:aI):Option (ByteArray×Bool×Unit):=(fO a0.aq 0 9).bind fun r1=>bm (fun(v2:Bool×aI×Unit)=>(bif (!v2.1)then some true else(lq {a0 with aa:=(ae a0.aa),af:={a0.af with al:={a0.af.al with aa:=(ae a0.af.al.aa)},ai:={a0.af.ai with aa:=(ae a0.af.ai.aa)}}} {v2.2.1 with az:=a0.az,aa:=(ae v2.2.1.aa),af:={v2.2.1.af with al:={v2.2.1.af.al with aa:=(ae v2.2.1.af.al.aa)},ai:={v2.2.1.af.ai with aa:=(ae v2.2.1.af.ai.aa)}}}).bind fun r4=>some (!r4)).bind fun b5=>bif b5 then some ((ByteArray.mk #[]),false,())else(uX {a0 with aa:=(ae a0.aa),af:={a0.af with al:={a0.af.al with aa:=(ae a0.af.al.aa)},ai:={a0.af.ai with aa:=(ae a0.af.ai.aa)}}}).bind fun r6=>some (r6,true,())) fun j3=>bm (fun(v7:Bool×Unit)=>bif v7.1 then(bif r1 then(fO a0.aE 1 1000).bind fun r9=>some r9 else some false).bind fun b10=>(bif b10 then(uY a0.Value).bind fun r11=>some r11 else some false).bind fun b12=>j3 (b12,(aI.mk 0 a0.aq 0 a0.aE 0 a0.Value (ab.mk 0 ([]:List Int) ([]:List ab)) (aQ.mk 0 0 (ax.mk 0 0 (ab.mk 0 ([]:List Int) ([]:List ab)) ([]:List ByteArray) ([]:List ByteArray)) (ak.mk 0 0 0 (ab.mk 0 ([]:List Int) ([]:List ab)) 0 zB zB zB 0 0)) ([]:List Int)),())else bif (decide (a0.az=2))then(fO a0.Count 1 1000).bind fun r13=>j3 (r13,(aI.mk 0 0 0 0 a0.Count (ByteArray.mk #[]) (ab.mk 0 ([]:List Int) ([]:List ab)) (aQ.mk 0 0 (ax.mk 0 0 (ab.mk 0 ([]:List Int) ([]:List ab)) ([]:List ByteArray) ([]:List ByteArray)) (ak.mk 0 0 0 (ab.mk 0 ([]:List Int) ([]:List ab)) 0 zB zB zB 0 0)) ([]:List Int)),())else bif (decide (a0.az=4))then j3 (r1,(aI.mk 0 a0.aq 0 0 0 (ByteArray.mk #[]) (ab.mk 0 ([]:List Int) ([]:List ab)) (aQ.mk 0 0 (ax.mk 0 0 (ab.mk 0 ([]:List Int) ([]:List ab)) ([]:List ByteArray) ([]:List ByteArray)) (ak.mk 0 0 0 (ab.mk 0 ([]:List Int) ([]:List ab)) 0 zB zB zB 0 0)) ([]:List Int)),())else bif (decide (a0.az=7))then(bif r1 then(fO a0.To 0 9).bind fun r14=>some r14 else some false).bind fun b15=>(bif b15 then(fO a0.Count 1 1000).bind fun r16=>some r16 else some false).bind fun b17=>j3 (b17,(aI.mk 0 a0.aq a0.To 0 a0.Count (ByteArray.mk #[]) (ab.mk 0 ([]:List Int) ([]:List ab)) (aQ.mk 0 0 (ax.mk 0 0 (ab.mk 0 ([]:List Int) ([]:List ab)) ([]:List ByteArray) ([]:List ByteArray)) (ak.mk 0 0 0 (ab.mk 0 ([]:List Int) ([]:List ab)) 0 zB zB zB 0 0)) ([]:List Int)),())else bif (decide (a0.az=3))then(bif r1 then(cn (ae a0.aa)).bind fun r18=>some (decide (r18=0))else some false).bind fun b19=>j3 (b19,(aI.mk 0 a0.aq 0 0 0 (ByteArray.mk #[]) (ae a0.aa) (aQ.mk 0 0 (ax.mk 0 0 (ab.mk 0 ([]:List Int) ([]:List ab)) ([]:List ByteArray) ([]:List ByteArray)) (ak.mk 0 0 0 (ab.mk 0 ([]:List Int) ([]:List ab)) 0 zB zB zB 0 0)) ([]:List Int)),())else bif (decide (a0.az=5))then(wN a0.aq a0.To a0.af.aE a0.af.ai.aj.Value).bind fun r20=>(bif r1 then(fO a0.To 0 9).bind fun r21=>some r21 else some false).bind fun b22=>(bif b22 then(fO a0.af.aE 1 1000).bind fun r23=>some r23 else some false).bind fun b24=>(bif b24 then(uY a0.af.ai.aj.Value).bind fun r25=>some r25 else some false).bind fun b26=>j3 (b26,{r20 with aa:=(ae r20.aa),af:={r20.af with al:={r20.af.al with aa:=(ae r20.af.al.aa)},ai:={r20.af.ai with aa:=(ae r20.af.ai.aa)}}},())else bif (decide (a0.az=6))then aD (fun(v27:Bool×Int×Unit)=>bif (decide (v27.2.1<((a0.bx.length:Nat):Int)))then(idx a0.bx v27.2.1).bind fun x28=>(bif v27.1 then(fO x28 1 1023).bind fun r29=>some r29 else some false).bind fun b30=>some (Sum.inl (b30,(aB .i64 v27.2.1 1),()))else oR (j3 (v27.1,(aI.mk 0 0 0 0 0 (ByteArray.mk #[]) (ab.mk 0 ([]:List Int) ([]:List ab)) (aQ.mk 0 0 (ax.mk 0 0 (ab.mk 0 ([]:List Int) ([]:List ab)) ([]:List ByteArray) ([]:List ByteArray)) (ak.mk 0 0 0 (ab.mk 0 ([]:List Int) ([]:List ab)) 0 zB zB zB 0 0)) a0.bx),()))) ((decide (0<((a0.bx.length:Nat):Int))),0,())else some ((ByteArray.mk #[]),false,())) fun j8=>bif (decide (a0.az=1))then j8 ((decide (a0.az=1)),())else j8 ((decide (a0.az=8)),())
def NI:=kf func21 [t6] (.many [y2,y1]) (u1 qT) [] (p_ 3 7 (.j ⟨[.val 5 y1,.box 3 1 y6 []],[1,4]⟩ (p_ 3 2 (.j ⟨[.val 13 y1],[1,4,5,12]⟩ (p_ 18 122879 (.j ⟨[.val 5 y1,.val 128 y0],[1,4,126,127]⟩ .e)))))) [Th,NH,dh,PH,LN,NG]
def pO(s:cr)(a0:Int)(a1:Int):Option ((List aI)×cr):=(pc s a0 a1 7).bind fun p1=>aD (fun(v2:Int×(List aI)×Unit)=>bif (decide (v2.1<((p1.1.length:Nat):Int)))then bm (fun(v3:(List aI)×Unit)=>some (Sum.inl ((aB .i64 v2.1 1),v3.1,()))) fun j4=>(idx p1.1 v2.1).bind fun x5=>(qT {x5 with aa:=(ae x5.aa),af:={x5.af with al:={x5.af.al with aa:=(ae x5.af.al.aa)},ai:={x5.af.ai with aa:=(ae x5.af.ai.aa)}}}).bind fun r6=>bif r6.2.1 then bif aT 448 (v2.2.1.length+List.length [{x5 with aa:=(ae x5.aa),af:={x5.af with al:={x5.af.al with aa:=(ae x5.af.al.aa)},ai:={x5.af.ai with aa:=(ae x5.af.ai.aa)}}}])then j4 ((v2.2.1++[{x5 with aa:=(ae x5.aa),af:={x5.af with al:={x5.af.al with aa:=(ae x5.af.al.aa)},ai:={x5.af.ai with aa:=(ae x5.af.ai.aa)}}}]),())else none else j4 (v2.2.1,())else oR (some (v2.2.1,p1.2))) (0,([]:List aI),())
def Mb:=kr func8 0 y9 [t0,t0] (.one y23) (fun s a=>pO s a.1 a.2.1) [] (p_ 5 11 (.ps (.own 7 51 34 y6) (.j ⟨[.val 17 y0,.own 7 9 1 51 34 y6],[15,16]⟩ (p_ 3 6 (.j ⟨[.own 7 9 1 51 34 y6],[15,16,17]⟩ .e))))) [G0,NI]
noncomputable def di(a0:Int)(a1:aI):Option aI:=some (aI.mk a0 a1.aq 0 0 0 (ByteArray.mk #[]) (ab.mk 0 ([]:List Int) ([]:List ab)) (aQ.mk 0 0 (ax.mk 0 0 (ab.mk 0 ([]:List Int) ([]:List ab)) ([]:List ByteArray) ([]:List ByteArray)) (ak.mk 0 0 0 (ab.mk 0 ([]:List Int) ([]:List ab)) 0 zB zB zB 0 0)) ([]:List Int))
def C7:=kf func64 [t0,.ref (t6)] (.one y6) (u2 di) [] .e []
noncomputable def gk(a0:(List ByteArray))(a1:ByteArray):Option ByteArray:=zS a0 a1
noncomputable def vQ:KS U prog:=⟨.fn 59 [t15,t2] q2 fun a=>gk a.1 a.2.1,ads⟩
def dv(a0:(List cN)):Option ByteArray:=aD (fun(v1:Int×(List ByteArray)×Unit)=>bif (decide (v1.1<((a0.length:Nat):Int)))then bm (fun(v2:(List ByteArray)×Unit)=>some (Sum.inl ((aB .i64 v1.1 1),v2.1,()))) fun j3=>(idx a0 v1.1).bind fun x4=>bif (!x4.xB)then(eW (cond x4.xB 0 x4.n)).bind fun r5=>bif aT 16 (v1.2.1.length+List.length [r5])then j3 ((v1.2.1++[r5]),())else none else bif x4.xB then bif aT 16 (v1.2.1.length+List.length [(cond x4.xB x4.s (ByteArray.mk #[]))])then j3 ((v1.2.1++[(cond x4.xB x4.s (ByteArray.mk #[]))]),())else none else j3 (v1.2.1,())else oR ((gk v1.2.1 (ByteArray.mk #[32])).bind fun r6=>some r6)) (0,([]:List ByteArray),())
def D3:=kf func65 [.ty (Ty.sl Ty.dyn)] q2 (u1 dv) [] (p_ 5 11 (.ps (.own 3 9 1 y2) (.j ⟨[.val 10 y0,.own 3 5 1 9 1 y2],[8,9]⟩ (p_ 3 6 (.j ⟨[.own 3 5 1 9 1 y2],[8,9,10]⟩ .e))))) [vR,vQ]
noncomputable def eL(a0:Int):Option Bool:=(bif (decide (0<=a0))then some (decide (a0<10))else some false).bind fun b1=>some b1
def FQ:=kf func66 [t0] q1 (u1 eL) [] .e []
noncomputable def hD(a0:Int):Option Bool:=(bif (decide (1<=a0))then some (decide (a0<=1000))else some false).bind fun b1=>some b1
def D4:=kf func67 [t0] q1 (u1 hD) [] .e []
noncomputable def gr(a0:ByteArray):Option Bool:=Ys a0
noncomputable def xA:KS U prog:=⟨.fn 31 [t2] q1 fun a=>gr a.1,adw⟩
noncomputable def tM(a0:Int):Option Bool:=(bif (decide (1<=a0))then some (decide (a0<1024))else some false).bind fun b1=>some b1
def G3:=kf func69 [t0] q1 (u1 tM) [] .e []
def jQ(a0:Int):Option Bool:=(tM a0).bind fun r1=>some (!r1)
def C6:=kf func68 [t0] q1 (u1 jQ) [] .e [G3]
def jx(a0:(List Int)):Option Int:=aD (fun(v1:Int×Unit)=>bif (decide (v1.1<((a0.length:Nat):Int)))then(idx a0 v1.1).bind fun x2=>(jQ x2).bind fun r3=>bif r3 then oR (some v1.1)else some (Sum.inl ((aB .i64 v1.1 1),()))else oR (some (-1:Int))) (0,())
def uw:=kf func112 [t12,.cz 68 []] q0 (fun a=>jx a.1) [] (p_ 4 5 (.j ⟨[.val 8 y0],[0,1,7]⟩ .e)) [C6]
def eu(a0:(List Int)):Option Bool:=(jx a0).bind fun r1=>some (decide (0<=r1))
def sJ:=kf func70 [t12,.cz 68 []] q1 (fun a=>eu a.1) [] .e [uw]
noncomputable def Dl:SA U:=iN (mI prog 20 [] f114) (.r (.r (.l (.r (.l (.j ⟨[.val 3 y0,.val 9 y0],[7,8]⟩ .e))))))
noncomputable def ix(rec:(ab×Unit)->Option Int)(a0:ab):Option Int:=aD (fun(v1:Int×Int×Unit)=>bif (decide (v1.2.1<((a0.aL.length:Nat):Int)))then(idx a0.aL v1.2.1).bind fun x2=>(rec ((ae x2),())).bind fun r3=>some (Sum.inl ((bV v1.1 r3),(aB .i64 v1.2.1 1),()))else oR (some (aB .i64 v1.1 1))) (0,0,())
noncomputable def lB:Nat->(ab×Unit)->Option Int:=iV (fun rec a=>ix rec a.1)
def iv(a0:ab):Option Int:=lB (SizeOf.sizeOf a0+1) (a0,())
noncomputable def FF:KS U prog:=⟨.fn 114 [t3] q0 fun a=>iv a.1,xu (K:=K) (A_s:=[t3]) (r:= .one y0) (B:=fun rec a=>ix rec a.1) Dl 20 [.tmp 2] [] (fk f114 [] func114) (hF:=fun a=>⟨_,rfl⟩)⟩
noncomputable def FA:SA U:=iN (mI prog 26 [] f115) (.r (.r (.l (.r (.l (.j ⟨[.val 3 y0,.val 16 y0],[14,15]⟩ .e))))))
noncomputable def jb(rec:(ab×Unit)->Option Int)(a0:ab):Option Int:=aD (fun(v1:Int×Int×Unit)=>bif (decide (v1.2.1<((a0.aL.length:Nat):Int)))then(idx a0.aL v1.2.1).bind fun x2=>(rec ((ae x2),())).bind fun r3=>some (Sum.inl ((aB .i64 v1.1 r3),(aB .i64 v1.2.1 1),()))else oR (some v1.1)) ((aB .i64 ((a0.aH.length:Nat):Int) ((a0.aL.length:Nat):Int)),0,())
noncomputable def mq:Nat->(ab×Unit)->Option Int:=iV (fun rec a=>jb rec a.1)
def iZ(a0:ab):Option Int:=mq (SizeOf.sizeOf a0+1) (a0,())
noncomputable def GQ:KS U prog:=⟨.fn 115 [t3] q0 fun a=>iZ a.1,xu (K:=K) (A_s:=[t3]) (r:= .one y0) (B:=fun rec a=>jb rec a.1) FA 26 [.tmp 2] [] (fk f115 [] func115) (hF:=fun a=>⟨_,rfl⟩)⟩
noncomputable def tJ(a0:Int):Option Bool:=(bif (decide (0<=a0))then some (decide (a0<10))else some false).bind fun b1=>some b1
def GP:=kf func157 [t0] q1 (u1 tJ) [] .e []
def jO(a0:Int):Option Bool:=(tJ a0).bind fun r1=>some (!r1)
def CX:=kf func156 [t0] q1 (u1 jO) [] .e [GP]
def jl(a0:(List Int)):Option Int:=aD (fun(v1:Int×Unit)=>bif (decide (v1.1<((a0.length:Nat):Int)))then(idx a0 v1.1).bind fun x2=>(jO x2).bind fun r3=>bif r3 then oR (some v1.1)else some (Sum.inl ((aB .i64 v1.1 1),()))else oR (some (-1:Int))) (0,())
def tX:=kf func112 [t12,.cz 156 []] q0 (fun a=>jl a.1) [] (p_ 4 5 (.j ⟨[.val 8 y0],[0,1,7]⟩ .e)) [CX]
def fl(a0:(List Int)):Option Bool:=(jl a0).bind fun r1=>some (decide (0<=r1))
def sq:=kf func70 [t12,.cz 156 []] q1 (fun a=>fl a.1) [] .e [tX]
noncomputable def vu(a0:Int)(a1:Int):Option Bool:=(bif (decide (0<=a0))then if a1<0 then none else some (decide (a0<(cP .i64 1 a1)))else some false).bind fun b1=>some b1
def IJ:=kf func248 [t0,t0] q1 (u2 vu) [] .e []
def qn(a0:Int):Option Bool:=(vu a0 10).bind fun r1=>some r1
def IK:=kf func227 [t0] q1 (u1 qn) [] .e [IJ]
def tg(a0:Int)(a1:Int):Option Bool:=(qn a0).bind fun r1=>(bif r1 then some (decide (0<=a1))else some false).bind fun b2=>(bif b2 then some (decide (a1<10))else some false).bind fun b3=>(bif b3 then if a1<0 then none else some (!decide ((qQ .i64 a0 (cP .i64 1 a1))=0))else some false).bind fun b4=>some b4
def Ma:=kf func190 [t0,t0] q1 (u2 tg) [] .e [IK]
def oL(a0:(List Int)):Option (Int×Int×Unit):=aD (fun(v1:Int×Int×Unit)=>bif (decide (v1.2.1<((a0.length:Nat):Int)))then(idx a0 v1.2.1).bind fun x2=>(bif (decide (x2<0))then some true else some (decide (10<=x2))).bind fun b3=>bif b3 then oR (some (0,5,()))else(tg v1.1 x2).bind fun r4=>bif r4 then oR (some (0,6,()))else if x2<0 then none else some (Sum.inl ((qy .i64 v1.1 (cP .i64 1 x2)),(aB .i64 v1.2.1 1),()))else oR (some (v1.1,0,()))) (0,0,())
def Ob:=kf func158 [t12] (.many [y0,y0]) (u1 oL) [] (p_ 5 11 (.j ⟨[.val 4 y0,.val 9 y0],[7,8]⟩ .e)) [Ma]
noncomputable def Dk:SA U:=iN (mI prog 48 [] f116) (.r (.r (.r (.r (.l (.r (.l (.j ⟨[.val 38 y0],[36,37]⟩ .e))))))))
def gu(rec:(ab×Unit)->Option Int)(a0:ab):Option Int:=(bif (decide (a0.aM<1))then some true else some (decide ((aB .i64 ((a0.aH.length:Nat):Int) ((a0.aL.length:Nat):Int))<a0.aM))).bind fun b1=>bif b1 then some 4 else(fl a0.aH).bind fun r2=>bif r2 then some 5 else(oL a0.aH).bind fun r3=>bif (!decide (r3.2.1=0))then some r3.2.1 else aD (fun(v4:Int×Unit)=>bif (decide (v4.1<((a0.aL.length:Nat):Int)))then(idx a0.aL v4.1).bind fun x5=>(rec ((ae x5),())).bind fun r6=>bif (!decide (r6=0))then oR (some r6)else some (Sum.inl ((aB .i64 v4.1 1),()))else oR (some 0)) (0,())
noncomputable def eK:Nat->(ab×Unit)->Option Int:=iV (fun rec a=>gu rec a.1)
def jC(a0:ab):Option Int:=eK (SizeOf.sizeOf a0+1) (a0,())
noncomputable def FE:KS U prog:=⟨.fn 116 [t3] q0 fun a=>jC a.1,xu (K:=K) (A_s:=[t3]) (r:= .one y0) (B:=fun rec a=>gu rec a.1) Dk 48 [.tmp 2] [sq,Ob] (fk f116 [] func116) (hF:=fun a=>⟨_,rfl⟩)⟩
def dr(a0:ab):Option Int:=(iv (ae a0)).bind fun r1=>(bif (decide (4<r1))then some true else(iZ (ae a0)).bind fun r2=>some (decide (200<r2))).bind fun b3=>bif b3 then some 3 else(jC (ae a0)).bind fun r4=>some r4
def so:=kf func72 [t3] q0 (u1 dr) [] .e [FF,GQ,FE]
noncomputable def FC:SA U:=iN (mI prog 42 [] f113) (.r (.r (.b (.r (.l (.ps (.own 3 9 1 y2) (.j ⟨[.val 11 y0,.own 3 7 1 9 1 y2],[1,9,10]⟩ .e)))) (.l (.r (.l (.j ⟨[.val 24 y0,.own 3 7 1 9 1 y2],[1,22,23]⟩ .e)))))))
def ph(rec:(ab×Unit)->Option ByteArray)(a0:ab):Option ByteArray:=aD (fun(v1:Int×(List ByteArray)×Unit)=>bif (decide (v1.1<((a0.aH.length:Nat):Int)))then(idx a0.aH v1.1).bind fun x2=>(eW x2).bind fun r3=>bif aT 16 (v1.2.1.length+List.length [r3])then some (Sum.inl ((aB .i64 v1.1 1),(v1.2.1++[r3]),()))else none else oR (aD (fun(v4:Int×(List ByteArray)×Unit)=>bif (decide (v4.1<((a0.aL.length:Nat):Int)))then(idx a0.aL v4.1).bind fun x5=>(rec ((ae x5),())).bind fun r6=>bif aT 16 (v4.2.1.length+List.length [r6])then some (Sum.inl ((aB .i64 v4.1 1),(v4.2.1++[r6]),()))else none else oR ((eW a0.aM).bind fun r7=>(cy r7 (ByteArray.mk #[32,111,102,32,40])).bind fun x8=>(gk v4.2.1 (ByteArray.mk #[44,32])).bind fun r9=>(cy x8 r9).bind fun x10=>(cy x10 (ByteArray.mk #[41])).bind fun x11=>some x11)) (0,v1.2.1,()))) (0,([]:List ByteArray),())
noncomputable def tH:Nat->(ab×Unit)->Option ByteArray:=iV (fun rec a=>ph rec a.1)
def tL(a0:ab):Option ByteArray:=tH (SizeOf.sizeOf a0+1) (a0,())
noncomputable def G1:KS U prog:=⟨.fn 113 [t3] q2 fun a=>tL a.1,xu (K:=K) (A_s:=[t3]) (r:= .one y2) (B:=fun rec a=>ph rec a.1) FC 42 [.tmp 2] [vR,vQ] (fk f113 [] func113) (hF:=fun a=>⟨_,rfl⟩)⟩
def qm(a0:ab):Option ByteArray:=(dr (ae a0)).bind fun r1=>bif (!decide (r1=0))then some (ByteArray.mk #[63])else(tL (ae a0)).bind fun r2=>some r2
def II:=kf func71 [t3] q2 (u1 qm) [] .e [so,G1]
noncomputable def wo(a0:Int)(a1:Int)(a2:Int)(a3:ByteArray):Option aI:=some (aI.mk 5 a0 a1 0 0 (ByteArray.mk #[]) (ab.mk 0 ([]:List Int) ([]:List ab)) (aQ.mk 2 a2 (ax.mk 0 0 (ab.mk 0 ([]:List Int) ([]:List ab)) ([]:List ByteArray) ([]:List ByteArray)) (ak.mk a0 a2 1 (ab.mk 1 [a0] ([]:List ab)) 3 (ao.mk 1 a3) zB zB 1 1)) ([]:List Int))
def J1:=kf func108 [t0,t0,t0,t2] (.one y6) (u4 wo) [] .e []
def pf(a0:Int)(a1:Int)(a2:Int)(a3:ByteArray):Option aI:=(wo a0 a1 a2 a3).bind fun r1=>some {r1 with aa:=(ae r1.aa),af:={r1.af with al:={r1.af.al with aa:=(ae r1.af.al.aa)},ai:={r1.af.ai with aa:=(ae r1.af.ai.aa)}}}
def yP:=kf func60 [t0,t0,t0,t2] (.one y6) (u4 pf) [] .e [J1]
def cb(a0:aI):Option (ByteArray×aI×Bool×Unit):=bm (fun(v1:Bool×Unit)=>bif v1.1 then(di a0.az {a0 with aa:=(ae a0.aa),af:={a0.af with al:={a0.af.al with aa:=(ae a0.af.al.aa)},ai:={a0.af.ai with aa:=(ae a0.af.ai.aa)}}}).bind fun r3=>bm (fun(v4:ByteArray×Unit)=>bm (fun(v6:ByteArray×Bool×aI×Unit)=>some (v6.1,{v6.2.2.1 with aa:=(ae v6.2.2.1.aa),af:={v6.2.2.1.af with al:={v6.2.2.1.af.al with aa:=(ae v6.2.2.1.af.al.aa)},ai:={v6.2.2.1.af.ai with aa:=(ae v6.2.2.1.af.ai.aa)}}},v6.2.1,())) fun j7=>(dv [(cN.mk true 0 v4.1),(cN.mk false a0.aq (ByteArray.mk #[])),(cN.mk false a0.aE (ByteArray.mk #[])),(cN.mk true 0 a0.Value)]).bind fun r8=>(eL a0.aq).bind fun r9=>bif r9 then(hD a0.aE).bind fun r10=>bif r10 then(gr a0.Value).bind fun r11=>j7 (r8,r11,{r3 with aE:=a0.aE,Value:=a0.Value,aa:=(ae r3.aa),af:={r3.af with al:={r3.af.al with aa:=(ae r3.af.al.aa)},ai:={r3.af.ai with aa:=(ae r3.af.ai.aa)}}},())else j7 (r8,false,{r3 with aE:=a0.aE,Value:=a0.Value,aa:=(ae r3.aa),af:={r3.af with al:={r3.af.al with aa:=(ae r3.af.al.aa)},ai:={r3.af.ai with aa:=(ae r3.af.ai.aa)}}},())else j7 (r8,false,{r3 with aE:=a0.aE,Value:=a0.Value,aa:=(ae r3.aa),af:={r3.af with al:={r3.af.al with aa:=(ae r3.af.al.aa)},ai:={r3.af.ai with aa:=(ae r3.af.ai.aa)}}},())) fun j5=>bif (decide (a0.az=8))then j5 ((ByteArray.mk #[112,114,101,102,101,114]),())else j5 ((ByteArray.mk #[112,114,111,112,111,115,101]),())else bif (decide (a0.az=2))then(dv [(cN.mk true 0 (ByteArray.mk #[116,105,99,107])),(cN.mk false a0.Count (ByteArray.mk #[]))]).bind fun r12=>(hD a0.Count).bind fun r13=>some (r12,(aI.mk a0.az 0 0 0 a0.Count (ByteArray.mk #[]) (ab.mk 0 ([]:List Int) ([]:List ab)) (aQ.mk 0 0 (ax.mk 0 0 (ab.mk 0 ([]:List Int) ([]:List ab)) ([]:List ByteArray) ([]:List ByteArray)) (ak.mk 0 0 0 (ab.mk 0 ([]:List Int) ([]:List ab)) 0 zB zB zB 0 0)) ([]:List Int)),r13,())else bif (decide (a0.az=4))then(dv [(cN.mk true 0 (ByteArray.mk #[115,116,111,112])),(cN.mk false a0.aq (ByteArray.mk #[]))]).bind fun r14=>(di a0.az {a0 with aa:=(ae a0.aa),af:={a0.af with al:={a0.af.al with aa:=(ae a0.af.al.aa)},ai:={a0.af.ai with aa:=(ae a0.af.ai.aa)}}}).bind fun r15=>(eL a0.aq).bind fun r16=>some (r14,{r15 with aa:=(ae r15.aa),af:={r15.af with al:={r15.af.al with aa:=(ae r15.af.al.aa)},ai:={r15.af.ai with aa:=(ae r15.af.ai.aa)}}},r16,())else bif (decide (a0.az=7))then(di a0.az {a0 with aa:=(ae a0.aa),af:={a0.af with al:={a0.af.al with aa:=(ae a0.af.al.aa)},ai:={a0.af.ai with aa:=(ae a0.af.ai.aa)}}}).bind fun r17=>bm (fun(v18:ByteArray×Bool×aI×Unit)=>some (v18.1,{v18.2.2.1 with aa:=(ae v18.2.2.1.aa),af:={v18.2.2.1.af with al:={v18.2.2.1.af.al with aa:=(ae v18.2.2.1.af.al.aa)},ai:={v18.2.2.1.af.ai with aa:=(ae v18.2.2.1.af.ai.aa)}}},v18.2.1,())) fun j19=>(dv [(cN.mk true 0 (ByteArray.mk #[100,101,108,97,121])),(cN.mk false a0.aq (ByteArray.mk #[])),(cN.mk false a0.To (ByteArray.mk #[])),(cN.mk false a0.Count (ByteArray.mk #[]))]).bind fun r20=>(eL a0.aq).bind fun r21=>bif r21 then(eL a0.To).bind fun r22=>bif r22 then(hD a0.Count).bind fun r23=>j19 (r20,r23,{r17 with To:=a0.To,Count:=a0.Count,aa:=(ae r17.aa),af:={r17.af with al:={r17.af.al with aa:=(ae r17.af.al.aa)},ai:={r17.af.ai with aa:=(ae r17.af.ai.aa)}}},())else j19 (r20,false,{r17 with To:=a0.To,Count:=a0.Count,aa:=(ae r17.aa),af:={r17.af with al:={r17.af.al with aa:=(ae r17.af.al.aa)},ai:={r17.af.ai with aa:=(ae r17.af.ai.aa)}}},())else j19 (r20,false,{r17 with To:=a0.To,Count:=a0.Count,aa:=(ae r17.aa),af:={r17.af with al:={r17.af.al with aa:=(ae r17.af.al.aa)},ai:={r17.af.ai with aa:=(ae r17.af.ai.aa)}}},())else bif (decide (a0.az=6))then aD (fun(v24:Int×(List cN)×Unit)=>bif (decide (v24.1<((a0.bx.length:Nat):Int)))then(idx a0.bx v24.1).bind fun x25=>bif aT 16 (v24.2.1.length+List.length [(cN.mk false x25 (ByteArray.mk #[]))])then some (Sum.inl ((aB .i64 v24.1 1),(v24.2.1++[(cN.mk false x25 (ByteArray.mk #[]))]),()))else none else oR (bm (fun(v26:ByteArray×Bool×aI×Unit)=>some (v26.1,{v26.2.2.1 with aa:=(ae v26.2.2.1.aa),af:={v26.2.2.1.af with al:={v26.2.2.1.af.al with aa:=(ae v26.2.2.1.af.al.aa)},ai:={v26.2.2.1.af.ai with aa:=(ae v26.2.2.1.af.ai.aa)}}},v26.2.1,())) fun j27=>(dv v24.2.1).bind fun r28=>bif (decide (0<((a0.bx.length:Nat):Int)))then(eu a0.bx).bind fun r29=>j27 (r28,(!r29),(aI.mk a0.az 0 0 0 0 (ByteArray.mk #[]) (ab.mk 0 ([]:List Int) ([]:List ab)) (aQ.mk 0 0 (ax.mk 0 0 (ab.mk 0 ([]:List Int) ([]:List ab)) ([]:List ByteArray) ([]:List ByteArray)) (ak.mk 0 0 0 (ab.mk 0 ([]:List Int) ([]:List ab)) 0 zB zB zB 0 0)) a0.bx),())else j27 (r28,false,(aI.mk a0.az 0 0 0 0 (ByteArray.mk #[]) (ab.mk 0 ([]:List Int) ([]:List ab)) (aQ.mk 0 0 (ax.mk 0 0 (ab.mk 0 ([]:List Int) ([]:List ab)) ([]:List ByteArray) ([]:List ByteArray)) (ak.mk 0 0 0 (ab.mk 0 ([]:List Int) ([]:List ab)) 0 zB zB zB 0 0)) a0.bx),()))) (0,[(cN.mk true 0 (ByteArray.mk #[112,97,114,116]))],())else bif (decide (a0.az=3))then(di a0.az {a0 with aa:=(ae a0.aa),af:={a0.af with al:={a0.af.al with aa:=(ae a0.af.al.aa)},ai:={a0.af.ai with aa:=(ae a0.af.ai.aa)}}}).bind fun r30=>bm (fun(v31:ByteArray×Bool×aI×Unit)=>some (v31.1,{v31.2.2.1 with aa:=(ae v31.2.2.1.aa),af:={v31.2.2.1.af with al:={v31.2.2.1.af.al with aa:=(ae v31.2.2.1.af.al.aa)},ai:={v31.2.2.1.af.ai with aa:=(ae v31.2.2.1.af.ai.aa)}}},v31.2.1,())) fun j32=>(qm (ae a0.aa)).bind fun r33=>(dv [(cN.mk true 0 (ByteArray.mk #[100,101,99,108,97,114,101])),(cN.mk false a0.aq (ByteArray.mk #[])),(cN.mk true 0 r33)]).bind fun r34=>(eL a0.aq).bind fun r35=>bif r35 then(dr (ae a0.aa)).bind fun r36=>j32 (r34,(decide (r36=0)),{r30 with aa:=(ae a0.aa),af:={r30.af with al:={r30.af.al with aa:=(ae r30.af.al.aa)},ai:={r30.af.ai with aa:=(ae r30.af.ai.aa)}}},())else j32 (r34,false,{r30 with aa:=(ae a0.aa),af:={r30.af with al:={r30.af.al with aa:=(ae r30.af.al.aa)},ai:={r30.af.ai with aa:=(ae r30.af.ai.aa)}}},())else bif (decide (a0.az=5))then bm (fun(v37:ByteArray×Bool×aI×Unit)=>some (v37.1,{v37.2.2.1 with aa:=(ae v37.2.2.1.aa),af:={v37.2.2.1.af with al:={v37.2.2.1.af.al with aa:=(ae v37.2.2.1.af.al.aa)},ai:={v37.2.2.1.af.ai with aa:=(ae v37.2.2.1.af.ai.aa)}}},v37.2.1,())) fun j38=>(dv [(cN.mk true 0 (ByteArray.mk #[108,105,101])),(cN.mk false a0.aq (ByteArray.mk #[])),(cN.mk false a0.To (ByteArray.mk #[])),(cN.mk false a0.af.aE (ByteArray.mk #[])),(cN.mk true 0 a0.af.ai.aj.Value)]).bind fun r39=>(pf a0.aq a0.To a0.af.aE a0.af.ai.aj.Value).bind fun r40=>(eL a0.aq).bind fun r41=>bif r41 then(eL a0.To).bind fun r42=>bif r42 then(hD a0.af.aE).bind fun r43=>bif r43 then(gr a0.af.ai.aj.Value).bind fun r44=>j38 (r39,r44,{r40 with aa:=(ae r40.aa),af:={r40.af with al:={r40.af.al with aa:=(ae r40.af.al.aa)},ai:={r40.af.ai with aa:=(ae r40.af.ai.aa)}}},())else j38 (r39,false,{r40 with aa:=(ae r40.aa),af:={r40.af with al:={r40.af.al with aa:=(ae r40.af.al.aa)},ai:={r40.af.ai with aa:=(ae r40.af.ai.aa)}}},())else j38 (r39,false,{r40 with aa:=(ae r40.aa),af:={r40.af with al:={r40.af.al with aa:=(ae r40.af.al.aa)},ai:={r40.af.ai with aa:=(ae r40.af.ai.aa)}}},())else j38 (r39,false,{r40 with aa:=(ae r40.aa),af:={r40.af with al:={r40.af.al with aa:=(ae r40.af.al.aa)},ai:={r40.af.ai with aa:=(ae r40.af.ai.aa)}}},())else some ((ByteArray.mk #[]),(aI.mk 0 0 0 0 0 (ByteArray.mk #[]) (ab.mk 0 ([]:List Int) ([]:List ab)) (aQ.mk 0 0 (ax.mk 0 0 (ab.mk 0 ([]:List Int) ([]:List ab)) ([]:List ByteArray) ([]:List ByteArray)) (ak.mk 0 0 0 (ab.mk 0 ([]:List Int) ([]:List ab)) 0 zB zB zB 0 0)) ([]:List Int)),false,())) fun j2=>bif (decide (a0.az=1))then j2 ((decide (a0.az=1)),())else j2 ((decide (a0.az=8)),())
def FR:=kf func32 [t6] (.many [y2,y6,y1]) (u1 cb) [134,1] (p_ 5 11 (.j ⟨[.val 19 y1],[1,3,5,18]⟩ (.r (.b (p_ 3 7 (.j ⟨[.val 7 y2],[1,3,6]⟩ (.r (.j ⟨[.val 2 y2,.val 4 y1,.box 2 1 y6 []],[3]⟩ .e)))) (p_ 5 31 (.b (p_ 2 3 (.j ⟨[.val 2 y2,.val 4 y1,.box 2 1 y6 []],[3]⟩ .e)) (.r (.b (.r (.b (p_ 2 1 (.j ⟨[.val 138 y0,.own 9 17 1 20 1 Ty.dyn],[1,3,136,137]⟩ .e)) (.r (.j ⟨[.val 2 y2,.val 4 y1,.box 2 1 y6 []],[3]⟩ .e)))) (.r (.b (p_ 2 3 (.j ⟨[.val 2 y2,.val 4 y1,.box 2 1 y6 []],[3]⟩ .e)) (p_ 3 5 (.j ⟨[.val 2 y2,.val 4 y1,.box 2 1 y6 []],[3]⟩ .e)))))))))))) [C7,D3,FQ,D4,xA,sJ,II,so,yP]
noncomputable def iP(a0:(List Int))(a1:(List Int)):Option Bool:=bif (!decide (((a0.length:Nat):Int)=((a1.length:Nat):Int)))then some false else aD (fun(v1:Int×Unit)=>bif (decide (v1.1<((a0.length:Nat):Int)))then(idx a0 v1.1).bind fun x2=>(idx a1 v1.1).bind fun x3=>bif (!decide (x2=x3))then oR (some false)else some (Sum.inl ((aB .i64 v1.1 1),()))else oR (some true)) (0,())
def sI:=kf func75 [t12,t12] q1 (u2 iP) [] (p_ 5 11 (.j ⟨[.val 13 y0],[0,1,12]⟩ .e)) []
noncomputable def jd:SA U:=iN (mI prog 32 [] f117) (.r (.r (.l (.r (.l (.j ⟨[.val 17 y0],[1,2,15,16]⟩ .e))))))
noncomputable def bR(rec:(ab×ab×Unit)->Option Bool)(a0:(List ab))(a1:(List ab)):Option Bool:=bif (!decide (((a0.length:Nat):Int)=((a1.length:Nat):Int)))then some false else aD (fun(v1:Int×Unit)=>bif (decide (v1.1<((a0.length:Nat):Int)))then(idx a0 v1.1).bind fun x2=>(idx a1 v1.1).bind fun x3=>(rec ((ae x2),(ae x3),())).bind fun r4=>bif (!r4)then oR (some false)else some (Sum.inl ((aB .i64 v1.1 1),()))else oR (some true)) (0,())
noncomputable def jk(g:(ab×ab×Unit)->Option Bool)(h:dk.Sound prog (U:=U) (.fn 73 [t3,t3] q1 g)):KS U prog:=⟨.fn 117 [.ty y24,.ty y24,.cz 73 []] q1 fun a=>bR g a.1 a.2.1,fnS (K:=K) jd 32 [.tmp 6] (⟨_,h⟩::[]) (fk f117 [] func117)⟩
noncomputable def FB:SA U:=iN (mI prog 24 [] f73) .e
def kh(rec:(ab×ab×Unit)->Option Bool)(a0:ab)(a1:ab):Option Bool:=(bif (decide (a0.aM=a1.aM))then(iP a0.aH a1.aH).bind fun r1=>some r1 else some false).bind fun b2=>(bif b2 then(bR rec a0.aL a1.aL).bind fun r3=>some r3 else some false).bind fun b4=>some b4
noncomputable def e9:Nat->(ab×ab×Unit)->Option Bool:=iV (fun rec a=>kh rec a.1 a.2.1)
def fN(a0:ab)(a1:ab):Option Bool:=e9 (SizeOf.sizeOf a0+SizeOf.sizeOf a1+1) (a0,a1,())
noncomputable def yI:KS U prog:=⟨.fn 73 [t3,t3] q1 fun a=>fN a.1 a.2.1,adQ (K:=K) (A_s:=[t3,t3]) (r:= .one y1) (B:=fun rec a=>kh rec a.1 a.2.1) FB 24 [.tmp 4] (fun g h=>[jk g h,sI]) (fk f73 [] func73) (hF:=fun a=>⟨_,rfl⟩)⟩
noncomputable def fq(a0:(List ByteArray))(a1:(List ByteArray)):Option Bool:=bif (!decide (((a0.length:Nat):Int)=((a1.length:Nat):Int)))then some false else aD (fun(v1:Int×Unit)=>bif (decide (v1.1<((a0.length:Nat):Int)))then(idx a0 v1.1).bind fun x2=>(idx a1 v1.1).bind fun x3=>bif (!decide (x2=x3))then oR (some false)else some (Sum.inl ((aB .i64 v1.1 1),()))else oR (some true)) (0,())
def vS:=kf func118 [t15,t15] q1 (u2 fq) [] (p_ 5 11 (.j ⟨[.val 13 y0],[0,1,12]⟩ .e)) []
def iG(a0:aQ)(a1:aQ):Option Bool:=(bif (decide (a0.al.aq=a1.al.aq))then some (decide (a0.al.aO=a1.al.aO))else some false).bind fun b1=>(bif b1 then(fN (ae a0.al.aa) (ae a1.al.aa)).bind fun r2=>some r2 else some false).bind fun b3=>(bif b3 then(fq a0.al.cx a1.al.cx).bind fun r4=>some r4 else some false).bind fun b5=>(bif b5 then(fq a0.al.bo a1.al.bo).bind fun r6=>some r6 else some false).bind fun b7=>(bif (decide (a0.ai.aq=a1.ai.aq))then some (decide (a0.ai.aE=a1.ai.aE))else some false).bind fun b8=>(bif b8 then some (decide (a0.ai.aO=a1.ai.aO))else some false).bind fun b9=>(bif b9 then(fN (ae a0.ai.aa) (ae a1.ai.aa)).bind fun r10=>some r10 else some false).bind fun b11=>(bif b11 then some (decide (a0.ai.az=a1.ai.az))else some false).bind fun b12=>(bif b12 then some (ml false a0.ai.aj.an a1.ai.aj.an a0.ai.aj.Value a1.ai.aj.Value)else some false).bind fun b13=>(bif b13 then some (ml false a0.ai.av.an a1.ai.av.an a0.ai.av.Value a1.ai.av.Value)else some false).bind fun b14=>(bif b14 then some (ml false a0.ai.aJ.an a1.ai.aJ.an a0.ai.aJ.Value a1.ai.aJ.Value)else some false).bind fun b15=>(bif b15 then some (decide (a0.ai.bf=a1.ai.bf))else some false).bind fun b16=>(bif b16 then some (decide (a0.ai.bM=a1.ai.bM))else some false).bind fun b17=>(bif (decide (a0.az=a1.az))then some (decide (a0.aE=a1.aE))else some false).bind fun b18=>(bif b18 then some b7 else some false).bind fun b19=>(bif b19 then some b17 else some false).bind fun b20=>some b20
def C8:=kf func74 [.ty y19,.ty y19] q1 (u2 iG) [] .e [yI,vS]
def iw(a0:aI)(a1:aI):Option Bool:=(bif (decide (a0.az=a1.az))then some (decide (a0.aq=a1.aq))else some false).bind fun b1=>(bif b1 then some (decide (a0.To=a1.To))else some false).bind fun b2=>(bif b2 then some (decide (a0.aE=a1.aE))else some false).bind fun b3=>(bif b3 then some (decide (a0.Count=a1.Count))else some false).bind fun b4=>(bif b4 then some (decide (a0.Value=a1.Value))else some false).bind fun b5=>(bif b5 then(fN (ae a0.aa) (ae a1.aa)).bind fun r6=>some r6 else some false).bind fun b7=>(bif b7 then(iG {a0.af with al:={a0.af.al with aa:=(ae a0.af.al.aa)},ai:={a0.af.ai with aa:=(ae a0.af.ai.aa)}} {a1.af with al:={a1.af.al with aa:=(ae a1.af.al.aa)},ai:={a1.af.ai with aa:=(ae a1.af.ai.aa)}}).bind fun r8=>some r8 else some false).bind fun b9=>(bif b9 then(iP a0.bx a1.bx).bind fun r10=>some r10 else some false).bind fun b11=>some b11
def FO:=kf func33 [t6,t6] q1 (u2 iw) [] .e [yI,C8,sI]
def db(a0:aI):Option (ByteArray×Bool×Unit):=(cb {a0 with aa:=(ae a0.aa),af:={a0.af with al:={a0.af.al with aa:=(ae a0.af.al.aa)},ai:={a0.af.ai with aa:=(ae a0.af.ai.aa)}}}).bind fun r1=>(bif (!r1.2.2.1)then some true else(iw {a0 with aa:=(ae a0.aa),af:={a0.af with al:={a0.af.al with aa:=(ae a0.af.al.aa)},ai:={a0.af.ai with aa:=(ae a0.af.ai.aa)}}} {r1.2.1 with aa:=(ae r1.2.1.aa),af:={r1.2.1.af with al:={r1.2.1.af.al with aa:=(ae r1.2.1.af.al.aa)},ai:={r1.2.1.af.ai with aa:=(ae r1.2.1.af.ai.aa)}}}).bind fun r2=>some (!r2)).bind fun b3=>bif b3 then some ((ByteArray.mk #[]),false,())else some (r1.1,true,())
def su:=kf func16 [t6] (.many [y2,y1]) (u1 db) [] .e [FR,FO]
def mF(a0:(List aI)):Option (ByteArray×Int×Unit):=yg (fun b0=>db b0) a0
noncomputable def C9:KS U prog:=⟨.fn 10 [.ty y23] (.many [y2,y0]) fun a=>mF a.1,adz su.s⟩
noncomputable def qc(a0:ByteArray)(a1:ByteArray):Option Int:=Bj a0 a1
noncomputable def Im:KS U prog:=⟨.fn 25 [t2,t2] q0 fun a=>qc a.1 a.2.1,ady⟩
noncomputable def Fx(a0:ByteArray):Option (List ByteArray):=A9 a0
noncomputable def ZX:KS U prog:=⟨.pr 27 26 [t2] 9 1 y2 fun a=>Fx a.1,Xw⟩
noncomputable def lL(a0:ByteArray)(a1:ByteArray):Option ByteArray:=EK a0 a1
noncomputable def B6:KS U prog:=⟨.fn 29 [t2,t2] q2 fun a=>lL a.1 a.2.1,adx⟩
noncomputable def uW(a0:ByteArray)(a1:ByteArray):Option (List ByteArray):=AR a0 a1
noncomputable def Il:KS U prog:=⟨.fw 54 [t2,t2] 9 1 y2 fun a=>uW a.1 a.2.1,adu⟩
noncomputable def dL(s:bl):Option (ByteArray×bl):=bif (decide (((s.l.length:Nat):Int)=0))then some ((ByteArray.mk #[]),(bl.mk s.l true))else(idx s.l 0).bind fun x1=>bif dN 1 (s.l.length:Int) (s.l.length)then some (x1,(bl.mk ((s.l.take (Int.toNat (s.l.length:Int))).drop (Int.toNat 1)) s.bad))else none
def mj:=kr func55 0 y25 [] q2 (fun s a=>dL s) [] .e []
noncomputable def wj(a0:ByteArray):Option (Int×Bool×Unit):=qa a0
noncomputable def Ba:KS U prog:=⟨.fn 103 [t2] (.many [y0,Ty.err]) fun a=>wj a.1,abZ⟩
def bC(s:bl):Option (Int×bl):=(dL s).bind fun p1=>(wj p1.1).bind fun r2=>(bif p1.2.bad then some true else some (xor true r2.2.1)).bind fun b3=>some (r2.1,(bl.mk p1.2.l b3))
def pn:=kr func57 0 y25 [] q0 (fun s a=>bC s) [] .e [mj,Ba]
def iX(s:bl)(t:aI):Option (bl×aI):=xY (fun s=>bC s) (fun s=>dL s) s t
noncomputable def xt:KS U prog:=⟨.r2 56 y25 y6 fun s t=>iX s t,adt pn.s mj.s⟩
noncomputable def jP(a0:ByteArray)(a1:ByteArray):Option Bool:=Cd a0 a1
noncomputable def CZ:KS U prog:=⟨.fn 149 [t2,t2] q1 fun a=>jP a.1 a.2.1,abX⟩
noncomputable def iF(a0:ByteArray)(a1:Int):Option Int:=uE a0 a1
noncomputable def CY:KS U prog:=⟨.fn 53 [t2,.ty (Ty.i .u8)] q0 fun a=>iF a.1 a.2.1,adv⟩
noncomputable def cI(a0:Int):Option Bool:=(bif (decide (48<=a0))then some (decide (a0<=57))else some false).bind fun b1=>some b1
def yO:=kf func150 [.ty (Ty.i .u8)] q1 (u1 cI) [] .e []
def ew(s:aK):Option ((Unit)×aK):=aD (fun(v1:aK×Unit)=>bm (fun(v2:Bool×Unit)=>bif v2.1 then some (Sum.inl ((aK.mk v1.1.text v1.1.token (aB .i64 v1.1.at_ 1)),()))else oR ((ir v1.1.text v1.1.at_ (ByteArray.size v1.1.text)).bind fun x4=>bm (fun(v5:Int×Unit)=>(ir x4 0 v5.1).bind fun x7=>some ((()),(aK.mk v1.1.text x7 v1.1.at_))) fun j6=>(jP x4 (ByteArray.mk #[111,102])).bind fun r8=>bif r8 then j6 (2,())else(bif (!decide (x4=(ByteArray.mk #[])))then(dY x4 0).bind fun x9=>(iF (ByteArray.mk #[40,41,44]) x9).bind fun r10=>some (decide (0<=r10))else some false).bind fun b11=>bif b11 then j6 (1,())else aD (fun(v12:Int×Unit)=>(bif (decide (v12.1<((ByteArray.size x4:Nat):Int)))then(dY x4 v12.1).bind fun x13=>(cI x13).bind fun r14=>some r14 else some false).bind fun b15=>bif b15 then some (Sum.inl ((aB .i64 v12.1 1),()))else oR (j6 (v12.1,()))) (0,()))) fun j3=>bif (decide (v1.1.at_<((ByteArray.size v1.1.text:Nat):Int)))then(dY v1.1.text v1.1.at_).bind fun x16=>j3 ((decide (x16=32)),())else j3 (false,())) ((aK.mk s.text s.token (aB .i64 s.at_ ((ByteArray.size s.token:Nat):Int))),())
def nI:=kr func104 0 y20 [] (.many []) (fun s a=>ew s) [] (.r (.b (.l (.j ⟨[.box 0 0 y20 []],[0]⟩ (p_ 2 0 (.j ⟨[.val 37 y1],[0]⟩ .e)))) (p_ 2 3 (.j ⟨[.val 3 y0],[0,2]⟩ (p_ 7 60 (.j ⟨[.val 3 y0],[0,2]⟩ .e)))))) [CZ,CY,yO]
def fA(s:aK):Option ((Int×Bool×Unit)×aK):=(bif (decide (s.token=(ByteArray.mk #[])))then some true else(dY s.token 0).bind fun x1=>(cI x1).bind fun r2=>some (!r2)).bind fun b3=>(bif b3 then some true else some (decide (4<((ByteArray.size s.token:Nat):Int)))).bind fun b4=>(bif b4 then some true else(bif (decide (1<((ByteArray.size s.token:Nat):Int)))then(dY s.token 0).bind fun x5=>some (decide (x5=48))else some false).bind fun b6=>some b6).bind fun b7=>bif b7 then some ((0,false,()),s)else(wj s.token).bind fun r8=>(ew s).bind fun p9=>some ((r8.1,true,()),p9.2)
def qI:=kr func105 0 y20 [] (.many [y0,y1]) (fun s a=>fA s) [] .e [yO,Ba,nI]
def bH(s:aK)(a0:ByteArray):Option (Bool×aK):=bif (!decide (s.token=a0))then some (false,s)else(ew s).bind fun p1=>some (true,p1.2)
def As:=kr func151 0 y20 [t2] q1 (fun s a=>bH s a.1) [] .e [nI]
noncomputable def zx:SA U:=iN (mI prog 63 [] f106) (.r (.r (.b (.j ⟨[.val 20 y1,.box 0 0 y20 []],[0,4,6]⟩ (.l (.g [(4,.w4 16)]))) (.l (.ps (.tu 6 2 41 3 y3) (.ps (.tu 6 1 3 1 y0) (.j ⟨[.box 0 0 y20 [],.box 1 1 y3 [],.box 5 1 y3 [(1,8,1),(2,7,1)],.eR 7 1 41 3 y3,.eR 8 1 3 1 y0],[0,4,6]⟩ (.l (.l (.r (.r (.j ⟨[.box 0 0 y20 [],.box 1 1 y3 [],.box 5 1 y3 [(1,8,1),(2,7,1)],.eR 7 1 41 3 y3,.eR 8 1 3 1 y0],[0,4,6]⟩ .e))))))))))))
def kA(rec:aK->(Int×Unit)->Option ((ab×Bool×Unit)×aK))(s:aK)(a0:Int):Option ((ab×Bool×Unit)×aK):=bm (fun(v1:Bool×aK×Unit)=>bif v1.1 then some (((ab.mk a0 ([]:List Int) ([]:List ab)),false,()),v1.2.1)else aD (fun(v3:aK×ab×ab×(List ab)×(List Int)×Unit)=>(fA v3.1).bind fun p4=>bif (!p4.1.2.1)then oR (some (((ab.mk v3.2.2.1.aM v3.2.2.2.2.1 v3.2.2.2.1),false,()),p4.2))else bm (fun(v5:aK×ab×ab×(List ab)×(List Int)×Unit)=>(bH v5.1 (ByteArray.mk #[41])).bind fun p7=>bif p7.1 then oR (some (((ab.mk v5.2.2.1.aM v5.2.2.2.2.1 v5.2.2.2.1),true,()),p7.2))else(bH p7.2 (ByteArray.mk #[44])).bind fun p8=>bif (!p8.1)then oR (some (((ab.mk v5.2.2.1.aM v5.2.2.2.2.1 v5.2.2.2.1),false,()),p8.2))else some (Sum.inl (p8.2,(ae v5.2.1),(ab.mk v5.2.2.1.aM ([]:List Int) ([]:List ab)),v5.2.2.2.1,v5.2.2.2.2.1,()))) fun j6=>bif (decide (p4.2.token=(ByteArray.mk #[111,102])))then(rec p4.2 (p4.1.1,())).bind fun p9=>bif (!p9.1.2.1)then oR (some (((ab.mk v3.2.2.1.aM v3.2.2.2.2.1 v3.2.2.2.1),false,()),p9.2))else bif aT 56 (v3.2.2.2.1.length+List.length [(ae p9.1.1)])then j6 (p9.2,(ae v3.2.1),(ab.mk v3.2.2.1.aM ([]:List Int) ([]:List ab)),(v3.2.2.2.1++[(ae p9.1.1)]),v3.2.2.2.2.1,())else none else bif aT 8 (v3.2.2.2.2.1.length+List.length [p4.1.1])then j6 (p4.2,(ae v3.2.1),(ab.mk v3.2.2.1.aM ([]:List Int) ([]:List ab)),v3.2.2.2.1,(v3.2.2.2.2.1++[p4.1.1]),())else none) (v1.2.1,(ab.mk 0 ([]:List Int) ([]:List ab)),(ab.mk a0 ([]:List Int) ([]:List ab)),([]:List ab),([]:List Int),())) fun j2=>(bH s (ByteArray.mk #[111,102])).bind fun p10=>bif (!p10.1)then j2 (true,p10.2,())else(bH p10.2 (ByteArray.mk #[40])).bind fun p11=>j2 ((!p11.1),p11.2,())
noncomputable def nO:Nat->aK->(Int×Unit)->Option ((ab×Bool×Unit)×aK):=yQ (fun rec s a=>kA rec s a.1)
def ky(s:aK)(a0:Int):Option ((ab×Bool×Unit)×aK):=nO (ByteArray.size s.text+2) s (a0,())
noncomputable def Au:KS U prog:=⟨.rc 106 0 y20 [t0] (.many [y3,y1]) fun s a=>ky s a.1,aeH (K:=K) (A_s:=[t0]) (r:= .many [y3,y1]) (R:=y20) (B:=fun rec s a=>kA rec s a.1) zx 63 [.cell 4 (some 3),.tmp 5] [As,qI] (fk f106 [] func106) (hF:=fun s a=>⟨_,rfl⟩)⟩
def pd(a0:ByteArray):Option (ab×Int×Int×Unit):=bif (decide (6000<((ByteArray.size a0:Nat):Int)))then some ((ab.mk 0 ([]:List Int) ([]:List ab)),0,3,())else(ew (aK.mk a0 (ByteArray.mk #[]) 0)).bind fun p1=>(fA p1.2).bind fun p2=>bm (fun(v3:Bool×aK×ab×Unit)=>(bif (!v3.1)then some true else some (decide (v3.2.1.at_<((ByteArray.size a0:Nat):Int)))).bind fun b5=>bif b5 then some ((ab.mk 0 ([]:List Int) ([]:List ab)),v3.2.1.at_,2,())else(dr (ae v3.2.2.1)).bind fun r6=>bif (!decide (r6=0))then some ((ab.mk 0 ([]:List Int) ([]:List ab)),0,r6,())else some ((ae v3.2.2.1),0,0,())) fun j4=>bif p2.1.2.1 then(ky p2.2 p2.1.1).bind fun p7=>j4 (p7.1.2.1,p7.2,(ae p7.1.1),())else j4 (p2.1.2.1,p2.2,(ab.mk 0 ([]:List Int) ([]:List ab)),())
def G2:=kf func58 [t2] (.many [y3,y0,y0]) (u1 pd) [] (p_ 6 63 (.j ⟨[.val 8 y1,.box 8 1 y20 [],.box 12 1 y3 []],[0,2,5,6]⟩ .e)) [nI,qI,Au,so]
def lE(a0:ByteArray):Option (aI×Bool×Unit):=(uW a0 (ByteArray.mk #[32])).bind fun r1=>bm (fun(v2:bl×aI×Unit)=>bm (fun(v4:Bool×aI×Unit)=>some ({v4.2.1 with aa:=(ae v4.2.1.aa),af:={v4.2.1.af with al:={v4.2.1.af.al with aa:=(ae v4.2.1.af.al.aa)},ai:={v4.2.1.af.ai with aa:=(ae v4.2.1.af.ai.aa)}}},v4.1,())) fun j5=>bif (!v2.1.bad)then j5 ((decide (((v2.1.l.length:Nat):Int)=0)),{v2.2.1 with aa:=(ae v2.2.1.aa),af:={v2.2.1.af with al:={v2.2.1.af.al with aa:=(ae v2.2.1.af.al.aa)},ai:={v2.2.1.af.ai with aa:=(ae v2.2.1.af.ai.aa)}}},())else j5 (false,{v2.2.1 with aa:=(ae v2.2.1.aa),af:={v2.2.1.af with al:={v2.2.1.af.al with aa:=(ae v2.2.1.af.al.aa)},ai:={v2.2.1.af.ai with aa:=(ae v2.2.1.af.ai.aa)}}},())) fun j3=>(dL (bl.mk r1 false)).bind fun p6=>bif (decide (p6.1=(ByteArray.mk #[112,114,111,112,111,115,101])))then(iX p6.2 (aI.mk 1 0 0 0 0 (ByteArray.mk #[]) (ab.mk 0 ([]:List Int) ([]:List ab)) (aQ.mk 0 0 (ax.mk 0 0 (ab.mk 0 ([]:List Int) ([]:List ab)) ([]:List ByteArray) ([]:List ByteArray)) (ak.mk 0 0 0 (ab.mk 0 ([]:List Int) ([]:List ab)) 0 zB zB zB 0 0)) ([]:List Int))).bind fun p7=>j3 (p7.1,{p7.2 with aa:=(ae p7.2.aa),af:={p7.2.af with al:={p7.2.af.al with aa:=(ae p7.2.af.al.aa)},ai:={p7.2.af.ai with aa:=(ae p7.2.af.ai.aa)}}},())else bif (decide (p6.1=(ByteArray.mk #[112,114,101,102,101,114])))then(iX p6.2 (aI.mk 8 0 0 0 0 (ByteArray.mk #[]) (ab.mk 0 ([]:List Int) ([]:List ab)) (aQ.mk 0 0 (ax.mk 0 0 (ab.mk 0 ([]:List Int) ([]:List ab)) ([]:List ByteArray) ([]:List ByteArray)) (ak.mk 0 0 0 (ab.mk 0 ([]:List Int) ([]:List ab)) 0 zB zB zB 0 0)) ([]:List Int))).bind fun p8=>j3 (p8.1,{p8.2 with aa:=(ae p8.2.aa),af:={p8.2.af with al:={p8.2.af.al with aa:=(ae p8.2.af.al.aa)},ai:={p8.2.af.ai with aa:=(ae p8.2.af.ai.aa)}}},())else bif (decide (p6.1=(ByteArray.mk #[116,105,99,107])))then(bC p6.2).bind fun p9=>j3 (p9.2,(aI.mk 2 0 0 0 p9.1 (ByteArray.mk #[]) (ab.mk 0 ([]:List Int) ([]:List ab)) (aQ.mk 0 0 (ax.mk 0 0 (ab.mk 0 ([]:List Int) ([]:List ab)) ([]:List ByteArray) ([]:List ByteArray)) (ak.mk 0 0 0 (ab.mk 0 ([]:List Int) ([]:List ab)) 0 zB zB zB 0 0)) ([]:List Int)),())else bif (decide (p6.1=(ByteArray.mk #[115,116,111,112])))then(bC p6.2).bind fun p10=>j3 (p10.2,(aI.mk 4 p10.1 0 0 0 (ByteArray.mk #[]) (ab.mk 0 ([]:List Int) ([]:List ab)) (aQ.mk 0 0 (ax.mk 0 0 (ab.mk 0 ([]:List Int) ([]:List ab)) ([]:List ByteArray) ([]:List ByteArray)) (ak.mk 0 0 0 (ab.mk 0 ([]:List Int) ([]:List ab)) 0 zB zB zB 0 0)) ([]:List Int)),())else bif (decide (p6.1=(ByteArray.mk #[100,101,108,97,121])))then(bC p6.2).bind fun p11=>(bC p11.2).bind fun p12=>(bC p12.2).bind fun p13=>j3 (p13.2,(aI.mk 7 p11.1 p12.1 0 p13.1 (ByteArray.mk #[]) (ab.mk 0 ([]:List Int) ([]:List ab)) (aQ.mk 0 0 (ax.mk 0 0 (ab.mk 0 ([]:List Int) ([]:List ab)) ([]:List ByteArray) ([]:List ByteArray)) (ak.mk 0 0 0 (ab.mk 0 ([]:List Int) ([]:List ab)) 0 zB zB zB 0 0)) ([]:List Int)),())else bif (decide (p6.1=(ByteArray.mk #[112,97,114,116])))then aD (fun(v14:bl×aI×(List Int)×Unit)=>bif (decide (0<((v14.1.l.length:Nat):Int)))then(bC v14.1).bind fun p15=>bif aT 8 (v14.2.2.1.length+List.length [p15.1])then some (Sum.inl (p15.2,{v14.2.1 with aa:=(ae v14.2.1.aa),af:={v14.2.1.af with al:={v14.2.1.af.al with aa:=(ae v14.2.1.af.al.aa)},ai:={v14.2.1.af.ai with aa:=(ae v14.2.1.af.ai.aa)}},bx:=([]:List Int)},(v14.2.2.1++[p15.1]),()))else none else oR (j3 (v14.1,{v14.2.1 with aa:=(ae v14.2.1.aa),af:={v14.2.1.af with al:={v14.2.1.af.al with aa:=(ae v14.2.1.af.al.aa)},ai:={v14.2.1.af.ai with aa:=(ae v14.2.1.af.ai.aa)}},bx:=v14.2.2.1},()))) (p6.2,(aI.mk 6 0 0 0 0 (ByteArray.mk #[]) (ab.mk 0 ([]:List Int) ([]:List ab)) (aQ.mk 0 0 (ax.mk 0 0 (ab.mk 0 ([]:List Int) ([]:List ab)) ([]:List ByteArray) ([]:List ByteArray)) (ak.mk 0 0 0 (ab.mk 0 ([]:List Int) ([]:List ab)) 0 zB zB zB 0 0)) ([]:List Int)),([]:List Int),())else bif (decide (p6.1=(ByteArray.mk #[100,101,99,108,97,114,101])))then(bC p6.2).bind fun p16=>(gk p16.2.l (ByteArray.mk #[32])).bind fun r17=>(pd r17).bind fun r18=>(bif p16.2.bad then some true else some (!decide (r18.2.2.1=0))).bind fun b19=>j3 ((bl.mk ([]:List ByteArray) b19),(aI.mk 3 p16.1 0 0 0 (ByteArray.mk #[]) (ae r18.1) (aQ.mk 0 0 (ax.mk 0 0 (ab.mk 0 ([]:List Int) ([]:List ab)) ([]:List ByteArray) ([]:List ByteArray)) (ak.mk 0 0 0 (ab.mk 0 ([]:List Int) ([]:List ab)) 0 zB zB zB 0 0)) ([]:List Int)),())else bif (decide (p6.1=(ByteArray.mk #[108,105,101])))then(bC p6.2).bind fun p20=>(bC p20.2).bind fun p21=>(bC p21.2).bind fun p22=>(dL p22.2).bind fun p23=>(pf p20.1 p21.1 p22.1 p23.1).bind fun r24=>j3 (p23.2,{r24 with aa:=(ae r24.aa),af:={r24.af with al:={r24.af.al with aa:=(ae r24.af.al.aa)},ai:={r24.af.ai with aa:=(ae r24.af.ai.aa)}}},())else j3 (p6.2,(aI.mk 0 0 0 0 0 (ByteArray.mk #[]) (ab.mk 0 ([]:List Int) ([]:List ab)) (aQ.mk 0 0 (ax.mk 0 0 (ab.mk 0 ([]:List Int) ([]:List ab)) ([]:List ByteArray) ([]:List ByteArray)) (ak.mk 0 0 0 (ab.mk 0 ([]:List Int) ([]:List ab)) 0 zB zB zB 0 0)) ([]:List Int)),())
def FP:=kf func28 [t2] (.many [y6,y1]) (u1 lE) [] (p_ 3 7 (.ps (.Ax 4 0) (.j ⟨[.box 5 1 y25 [],.box 7 1 y6 []],[2,4,5]⟩ (.b (p_ 3 5 (.b (.r (.g [(1,.two)])) (.r (.b (.r (.g [(1,.two)])) (p_ 10 383 (.ps (.tu 5 33 3 1 y0) (.j ⟨[.box 5 1 y25 [],.box 7 1 y6 [(33,24,1)],.eR 24 1 3 1 y0],[2,4,5]⟩ (p_ 4 12 (.ps (.Ax 5 33) .e))))))))) (.j ⟨[.val 3 y1,.box 0 1 y6 []],[2]⟩ .e))))) [Il,mj,xt,pn,vQ,G2,yP]
def jh(a0:ByteArray):Option ((List aI)×Int×Int×Unit):=(bif (decide (20000<((ByteArray.size a0:Nat):Int)))then some true else(qc a0 (ByteArray.mk #[10])).bind fun r1=>some (decide (300<r1))).bind fun b2=>bif b2 then some (([]:List aI),0,3,())else(Fx a0).bind fun r3=>aD (fun(v4:Int×(List aI)×Unit)=>bif (decide (v4.1<((r3.length:Nat):Int)))then(idx r3 v4.1).bind fun x5=>(r3[(Int.toNat v4.1)]?).bind fun x6=>(lL x6 (ByteArray.mk #[10])).bind fun r7=>(lE r7).bind fun r8=>(db {r8.1 with aa:=(ae r8.1.aa),af:={r8.1.af with al:={r8.1.af.al with aa:=(ae r8.1.af.al.aa)},ai:={r8.1.af.ai with aa:=(ae r8.1.af.ai.aa)}}}).bind fun r9=>(bif (!r8.2.1)then some true else some (!r9.2.1)).bind fun b10=>(bif b10 then some true else(cy r9.1 (ByteArray.mk #[10])).bind fun x11=>some (!decide (x11=x6))).bind fun b12=>bif b12 then oR (some (([]:List aI),(aB .i64 v4.1 1),2,()))else bif aT 448 (v4.2.1.length+List.length [{r8.1 with aa:=(ae r8.1.aa),af:={r8.1.af with al:={r8.1.af.al with aa:=(ae r8.1.af.al.aa)},ai:={r8.1.af.ai with aa:=(ae r8.1.af.ai.aa)}}}])then some (Sum.inl ((aB .i64 v4.1 1),(v4.2.1++[{r8.1 with aa:=(ae r8.1.aa),af:={r8.1.af with al:={r8.1.af.al with aa:=(ae r8.1.af.al.aa)},ai:={r8.1.af.ai with aa:=(ae r8.1.af.ai.aa)}}}]),()))else none else oR (some (v4.2.1,0,0,()))) (0,([]:List aI),())
def w9:=kf func11 [t2] (.many [y23,y0,y0]) (u1 jh) [] (p_ 4 7 (.b (.g [(1,.pr)]) (.l (.ps (.own 5 51 34 y6) (.j ⟨[.val 24 y0,.own 5 17 1 51 34 y6],[22,23]⟩ .e))))) [Im,ZX,B6,FP,su]
def Mg(a0:(List aI))(a1:(List aI)):Option Bool:=bif (!decide (((a0.length:Nat):Int)=((a1.length:Nat):Int)))then some false else aD (fun(v1:Int×Unit)=>bif (decide (v1.1<((a0.length:Nat):Int)))then(idx a0 v1.1).bind fun x2=>(idx a1 v1.1).bind fun x3=>(lq {x2 with aa:=(ae x2.aa),af:={x2.af with al:={x2.af.al with aa:=(ae x2.af.al.aa)},ai:={x2.af.ai with aa:=(ae x2.af.ai.aa)}}} {x3 with aa:=(ae x3.aa),af:={x3.af with al:={x3.af.al with aa:=(ae x3.af.al.aa)},ai:={x3.af.ai with aa:=(ae x3.af.ai.aa)}}}).bind fun r4=>bif (!r4)then oR (some false)else some (Sum.inl ((aB .i64 v1.1 1),()))else oR (some true)) (0,())
def vw:Option Bool:=(jh (ByteArray.mk #[112,114,101,102,101,114,32,48,32,49,32,97,10])).bind fun r1=>(db (aI.mk 8 0 0 1 0 (ByteArray.mk #[97]) (ab.mk 0 ([]:List Int) ([]:List ab)) (aQ.mk 0 0 (ax.mk 0 0 (ab.mk 0 ([]:List Int) ([]:List ab)) ([]:List ByteArray) ([]:List ByteArray)) (ak.mk 0 0 0 (ab.mk 0 ([]:List Int) ([]:List ab)) 0 zB zB zB 0 0)) ([]:List Int))).bind fun r2=>(bif (decide (r1.2.2.1=0))then some (decide (r1.2.1=0))else some false).bind fun b3=>(bif b3 then some (decide (((r1.1.length:Nat):Int)=1))else some false).bind fun b4=>(bif b4 then(idx r1.1 0).bind fun x5=>some (decide (x5.az=8))else some false).bind fun b6=>(bif b6 then some r2.2.1 else some false).bind fun b7=>(bif b7 then some (decide (r2.1=(ByteArray.mk #[112,114,101,102,101,114,32,48,32,49,32,97])))else some false).bind fun b8=>(bif b8 then(gr (ByteArray.mk #[97,49])).bind fun r9=>some r9 else some false).bind fun b10=>(bif b10 then(gr (ByteArray.mk #[65])).bind fun r11=>some (!r11)else some false).bind fun b12=>some b12
def Oc:=kf func13 [] q1 (fun a=>vw) [] .e [w9,su,xA]
noncomputable def wW(a0:Int)(a1:Int):Option ab:=aD (fun(v1:Int×ab×(List Int)×Unit)=>bif (decide (v1.1<a0))then bif aT 8 (v1.2.2.1.length+List.length [v1.1])then some (Sum.inl ((aB .i64 v1.1 1),(ab.mk v1.2.1.aM ([]:List Int) v1.2.1.aL),(v1.2.2.1++[v1.1]),()))else none else oR (some (ab.mk v1.2.1.aM v1.2.2.1 v1.2.1.aL))) (0,(ab.mk a1 ([]:List Int) ([]:List ab)),([]:List Int),())
def PS:=kf func34 [t0,t0] (.one y3) (u2 wW) [] (p_ 5 11 (.ps (.tu 5 1 3 1 y0) (.j ⟨[.val 6 y0,.box 3 1 y3 [(1,6,1)],.eR 6 1 3 1 y0],[0,4,5]⟩ .e))) []
def oe(s:cr)(a0:Int):Option (bQ×cr):=(bF s 3).bind fun p1=>aD (fun(v2:Int×cr×bQ×(List aU)×Unit)=>bif (decide (v2.1<a0))then(wW a0 (aB .i64 (yw .i64 a0 2) 1)).bind fun r3=>bm (fun(v4:cr×ab×Unit)=>bif aT 64 (v2.2.2.2.1.length+List.length [(aU.mk true (ae v4.2.1))])then some (Sum.inl ((aB .i64 v2.1 1),v4.1,(bQ.mk ([]:List aU)),(v2.2.2.2.1++[(aU.mk true (ae v4.2.1))]),()))else none) fun j5=>bif (!(decide (0<p1.1)))then(ke v2.2.1 a0).bind fun p6=>j5 (p6.2,(ae p6.1),())else j5 (v2.2.1,(ae r3),())else oR (some ((bQ.mk v2.2.2.2.1),v2.2.1))) (0,p1.2,(bQ.mk ([]:List aU)),([]:List aU),())
def FN:=kr func17 0 y9 [t0] (.one y16) (fun s a=>oe s a.1) [] (p_ 6 23 (.ps (.tu 5 0 97 4 y22) (.j ⟨[.val 7 y0,.box 0 0 y9 [],.box 2 1 y16 [(0,8,1)],.eR 8 1 97 4 y22],[0,1,4,5,6]⟩ (p_ 5 18 (.j ⟨[.box 0 0 y9 [],.box 17 1 y3 []],[0,1,4,5,6,7,8]⟩ .e))))) [js,PS,tB]
noncomputable def LD:SA U:=iN (mI prog 39 [] f119) (.r (.r (.b (.r (.l (.j ⟨[.val 3 y0,.val 11 y0],[1,9,10]⟩ (.l (.r (.r (.j ⟨[.val 3 y0],[1,9,10,11]⟩ .e))))))) (.l (.r (.l (.j ⟨[.val 3 y0,.val 29 y0],[27,28]⟩ .e)))))))
noncomputable def rp(rec:(ab×Unit)->Option Int)(a0:ab):Option Int:=aD (fun(v1:Int×Int×Unit)=>bif (decide (v1.2.1<((a0.aH.length:Nat):Int)))then bm (fun(v2:Int×Unit)=>some (Sum.inl (v2.1,(aB .i64 v1.2.1 1),()))) fun j3=>(idx a0.aH v1.2.1).bind fun x4=>(bif (decide (0<=x4))then some (decide (x4<10))else some false).bind fun b5=>bif b5 then if x4<0 then none else j3 ((qy .i64 v1.1 (cP .i64 1 x4)),())else j3 (v1.1,())else oR (aD (fun(v6:Int×Int×Unit)=>bif (decide (v6.2.1<((a0.aL.length:Nat):Int)))then(idx a0.aL v6.2.1).bind fun x7=>(rec ((ae x7),())).bind fun r8=>some (Sum.inl ((qy .i64 v6.1 r8),(aB .i64 v6.2.1 1),()))else oR (some v6.1)) (v1.1,0,()))) (0,0,())
noncomputable def uU:Nat->(ab×Unit)->Option Int:=iV (fun rec a=>rp rec a.1)
def vr(a0:ab):Option Int:=uU (SizeOf.sizeOf a0+1) (a0,())
noncomputable def D2:KS U prog:=⟨.fn 119 [t3] q0 fun a=>vr a.1,xu (K:=K) (A_s:=[t3]) (r:= .one y0) (B:=fun rec a=>rp rec a.1) LD 39 [.tmp 2] [] (fk f119 [] func119) (hF:=fun a=>⟨_,rfl⟩)⟩
def tf(a0:bQ):Option Int:=bif (decide (10<((a0.bq.length:Nat):Int)))then some 3 else aD (fun(v1:Int×Unit)=>bif (decide (v1.1<((a0.bq.length:Nat):Int)))then bm (fun(v2:Unit)=>some (Sum.inl ((aB .i64 v1.1 1),()))) fun j3=>(idx a0.bq v1.1).bind fun x4=>bif (!x4.dD)then(dy (ae x4.aa) (ab.mk 0 ([]:List Int) ([]:List ab))).bind fun r5=>bif (!r5)then oR (some 1)else j3 (())else(cn (ae x4.aa)).bind fun r6=>bif (!decide (r6=0))then oR (some r6)else(vr (ae x4.aa)).bind fun r7=>if((a0.bq.length:Nat):Int)<0 then none else bif (decide ((cP .i64 1 ((a0.bq.length:Nat):Int))<=r7))then oR (some 5)else j3 (())else oR (some 0)) (0,())
def L7:=kf func76 [t16] q0 (u1 tf) [] (p_ 5 11 (.j ⟨[.val 13 y0],[1,11,12]⟩ (p_ 3 6 (.j ⟨[],[1,11,12,13]⟩ .e)))) [eX,dh,D2]
def wP(a0:bQ)(a1:Int):Option (aZ×Int×Unit):=(tf a0).bind fun r1=>bif (!decide (r1=0))then some ((aZ.mk 0 ([]:List ay) 0 (aY.mk ([]:List bD) 0 ([]:List Int) ([]:List Int)) ([]:List (List ab))),r1,())else aD (fun(v2:Int×aZ×Unit)=>bif (decide (v2.1<((a0.bq.length:Nat):Int)))then(idx a0.bq v2.1).bind fun x3=>bif (!x3.dD)then oR (some ((aZ.mk 0 ([]:List ay) 0 (aY.mk ([]:List bD) 0 ([]:List Int) ([]:List Int)) ([]:List (List ab))),10,()))else some (Sum.inl ((aB .i64 v2.1 1),v2.2.1,()))else oR ((bif (decide (((a0.bq.length:Nat):Int)=0))then some true else some (decide (a1<0))).bind fun b4=>(bif b4 then some true else if(bI .u64 ((a0.bq.length:Nat):Int))<0 then none else some (decide ((cP .i64 1 (bI .u64 ((a0.bq.length:Nat):Int)))<=a1))).bind fun b5=>bif b5 then some ((aZ.mk 0 ([]:List ay) 0 (aY.mk ([]:List bD) 0 ([]:List Int) ([]:List Int)) ([]:List (List ab))),1,())else aD (fun(v6:Int×aZ×(List ay)×(List (List ab))×Unit)=>bif (decide (v6.1<((a0.bq.length:Nat):Int)))then(idx a0.bq v6.1).bind fun x7=>bif aT 96 (v6.2.2.1.length+List.length [(ay.mk v6.1 false (ae x7.aa) ([]:List bw))])then bif aT 24 (v6.2.2.2.1.length+List.length [[(ae x7.aa)]])then some (Sum.inl ((aB .i64 v6.1 1),{v6.2.1 with aH:=([]:List ay),cM:=([]:List (List ab))},(v6.2.2.1++[(ay.mk v6.1 false (ae x7.aa) ([]:List bw))]),(v6.2.2.2.1++[[(ae x7.aa)]]),()))else none else none else oR (some ({v6.2.1 with aH:=v6.2.2.1,cM:=v6.2.2.2.1},0,()))) (0,(aZ.mk 0 ([]:List ay) a1 (aY.mk ([]:List bD) 0 ([]:List Int) ([]:List Int)) ([]:List (List ab))),([]:List ay),([]:List (List ab)),()))) (0,(aZ.mk 0 ([]:List ay) 0 (aY.mk ([]:List bD) 0 ([]:List Int) ([]:List Int)) ([]:List (List ab))),())
def PJ:=kf func36 [t16,t0] (.many [y8,y0]) (u2 wP) [] (p_ 3 7 (.b (p_ 2 1 (.j ⟨[.val 25 y0,.box 1 1 y8 []],[1,2,4,7,23,24]⟩ .e)) (p_ 5 11 (.ps (.tu 10 1 105 6 y10) (.ps (.tu 10 7 39 1 y24) (.j ⟨[.val 53 y0,.box 32 1 y8 [(1,38,1),(7,39,1)],.eR 38 1 105 6 y10,.eR 39 1 39 1 y24],[4,10,51,52]⟩ .e)))))) [L7]
noncomputable def pC(a0:(List Int)):Option Bool:=aD (fun(v1:Int×Int×Unit)=>bif (decide (v1.2.1<((a0.length:Nat):Int)))then(idx a0 v1.2.1).bind fun x2=>(bif (decide (x2<1))then some true else some (decide (1023<x2))).bind fun b3=>(bif b3 then some true else some (!decide ((qQ .i64 v1.1 x2)=0))).bind fun b4=>bif b4 then oR (some false)else some (Sum.inl ((qy .i64 v1.1 x2),(aB .i64 v1.2.1 1),()))else oR (some (decide (((a0.length:Nat):Int)<=10)))) (0,0,())
def CG:=kf func128 [t12] q1 (u1 pC) [] (p_ 5 11 (.j ⟨[.val 3 y0,.val 8 y0],[0,6,7]⟩ .e)) []
noncomputable def gW(a0:Int):Option Bool:=(bif (decide (0<=a0))then some (decide (a0<=9))else some false).bind fun b1=>some b1
def ux:=kf func129 [t0] q1 (u1 gW) [] .e []
noncomputable def oB(a0:bD)(a1:bD):Option Bool:=bif (!decide (a0.nC=a1.nC))then some (decide (a0.nC<a1.nC))else bif (!decide (a0.o6=a1.o6))then some (decide (a0.o6<a1.o6))else bif (!decide (a0.To=a1.To))then some (decide (a0.To<a1.To))else some (decide (a0.Number<a1.Number))
def Bb:=kf func159 [.ty y26,.ty y26] q1 (u2 oB) [] .e []
def jF(a0:aY):Option Bool:=(bif (decide (4000<((a0.bh.length:Nat):Int)))then some true else some (decide (a0.Next<0))).bind fun b1=>(bif b1 then some true else some (decide (1000000000<a0.Next))).bind fun b2=>(bif b2 then some true else(pC a0.bx).bind fun r3=>some (!r3)).bind fun b4=>(bif b4 then some true else(bif (!decide (((a0.eO.length:Nat):Int)=0))then some (!decide (((a0.eO.length:Nat):Int)=100))else some false).bind fun b5=>some b5).bind fun b6=>bif b6 then some false else aD (fun(v7:Int×Unit)=>bif (decide (v7.1<((a0.eO.length:Nat):Int)))then(idx a0.eO v7.1).bind fun x8=>(bif (decide (x8<0))then some true else some (decide (20<x8))).bind fun b9=>bif b9 then oR (some false)else some (Sum.inl ((aB .i64 v7.1 1),()))else oR (aD (fun(v10:Int×Unit)=>bif (decide (v10.1<((a0.bh.length:Nat):Int)))then(idx a0.bh v10.1).bind fun x11=>bm (fun(v12:Bool×Unit)=>bif v12.1 then oR (some false)else some (Sum.inl ((aB .i64 v10.1 1),()))) fun j13=>(gW x11.o6).bind fun r14=>bif (!r14)then j13 (true,())else(gW x11.To).bind fun r15=>bif (!r15)then j13 (true,())else bif (decide (x11.o6=x11.To))then j13 (true,())else bif (decide (x11.nC<0))then j13 (true,())else bif (decide (220<x11.nC))then j13 (true,())else bif (decide (x11.Number<0))then j13 (true,())else bif (decide (a0.Next<=x11.Number))then j13 (true,())else bif (decide (0<v10.1))then(idx a0.bh (ez .i64 v10.1 1)).bind fun x16=>(oB {x16 with af:={x16.af with al:={x16.af.al with aa:=(ae x16.af.al.aa)},ai:={x16.af.ai with aa:=(ae x16.af.ai.aa)}}} {x11 with af:={x11.af with al:={x11.af.al with aa:=(ae x11.af.al.aa)},ai:={x11.af.ai with aa:=(ae x11.af.ai.aa)}}}).bind fun r17=>j13 ((!r17),())else j13 (false,())else oR (some true)) (0,()))) (0,())
def pk:=kf func120 [t17] q1 (u1 jF) [] (p_ 2 3 (.b (p_ 2 1 (.j ⟨[.val 42 y0],[1,40,41]⟩ .e)) (p_ 3 2 (.j ⟨[.val 56 y0],[1,54,55]⟩ (p_ 6 38 (.j ⟨[.val 114 y1],[1,54,55,56]⟩ .e)))))) [CG,ux,Bb]
def fQ(a0:ah):Option ak:=bm (fun(v1:ak×Unit)=>some {v1.1 with aa:=(ae v1.1.aa)}) fun j2=>bif (decide (a0.ba=1))then(bL a0.aC).bind fun r3=>(bif (!r3)then(cC a0.aC a0.aj).bind fun r4=>some r4 else some false).bind fun b5=>bif b5 then j2 ({a0 with aa:=(ae a0.aa),az:=a0.ba,bM:=a0.aC.an},())else j2 ({a0 with aa:=(ae a0.aa),az:=a0.ba,bM:=0},())else bif (decide (a0.ba=2))then j2 ({a0 with aa:=(ae a0.aa),az:=a0.ba,aJ:=zB},())else j2 ({a0 with aa:=(ae a0.aa),az:=a0.ba,av:=zB,aJ:=zB},())
def mh:=kf func228 [t4] (.one y11) (u1 fQ) [] (p_ 2 3 (.j ⟨[.box 15 1 y11 []],[2,3]⟩ .e)) [dc,ep]
def fU(a0:ah):Option Bool:=(bif (decide (a0.aq<0))then some true else some (decide (9<a0.aq))).bind fun b1=>(bif b1 then some true else some (decide (a0.aE<1))).bind fun b2=>(bif b2 then some true else some (decide (1000000<a0.aE))).bind fun b3=>(bif b3 then some true else some (decide (a0.aO<0))).bind fun b4=>(bif b4 then some true else some (decide (1000000<a0.aO))).bind fun b5=>(bif b5 then some true else(cn (ae a0.aa)).bind fun r6=>some (!decide (r6=0))).bind fun b7=>(bif b7 then some true else some (decide (200<((ByteArray.size a0.bU:Nat):Int)))).bind fun b8=>bif b8 then some false else aD (fun(v9:Int×Unit)=>bif (decide (v9.1<((a0.aF.length:Nat):Int)))then(idx a0.aF v9.1).bind fun x10=>bm (fun(v11:Bool×Unit)=>bif v11.1 then oR (some false)else some (Sum.inl ((aB .i64 v9.1 1),()))) fun j12=>(cJ {x10 with aa:=(ae x10.aa)}).bind fun r13=>bif (!r13)then j12 (true,())else bif (!decide (x10.aE=a0.aE))then j12 (true,())else bif (decide (x10.aq=a0.aq))then j12 (true,())else bif (decide (0<v9.1))then(idx a0.aF (ez .i64 v9.1 1)).bind fun x14=>j12 ((decide (x10.aq<=x14.aq)),())else j12 (false,())else oR ((bL a0.aj).bind fun r15=>bif r15 then(bif (decide (a0.ba=1))then some (decide (a0.aO=0))else some false).bind fun b16=>(bif b16 then(bL a0.av).bind fun r17=>some r17 else some false).bind fun b18=>(bif b18 then(bL a0.aJ).bind fun r19=>some r19 else some false).bind fun b20=>(bif b20 then(bL a0.aC).bind fun r21=>some r21 else some false).bind fun b22=>(bif b22 then some (decide (a0.bf=0))else some false).bind fun b23=>(bif b23 then some (decide (a0.bM=0))else some false).bind fun b24=>some b24 else(fQ {a0 with aa:=(ae a0.aa)}).bind fun r25=>(cJ {r25 with aa:=(ae r25.aa)}).bind fun r26=>bif (!r26)then some false else(bif (!decide (a0.ba=2))then some (!decide (a0.ba=3))else some false).bind fun b27=>(bif b27 then some (!decide (a0.bM=0))else some false).bind fun b28=>bif b28 then some false else(bif (decide (a0.ba=3))then(bL a0.av).bind fun r29=>(bif (!r29)then some true else(bL a0.aJ).bind fun r30=>some (!r30)).bind fun b31=>some b31 else some false).bind fun b32=>(bif b32 then some true else(bif (decide (a0.ba=2))then(bL a0.aJ).bind fun r33=>some (!r33)else some false).bind fun b34=>some b34).bind fun b35=>bif b35 then some false else(bL a0.aC).bind fun r36=>bif r36 then some true else(hZ a0.aC).bind fun r37=>(bif (!r37)then some true else some (decide (1000<a0.aC.an))).bind fun b38=>bif b38 then some false else bif (decide (a0.ba=1))then(gY a0.av a0.aJ a0.aC).bind fun r39=>some r39 else(cC a0.aC a0.aj).bind fun r40=>some r40)) (0,())
def jE:=kf func191 [t4] q1 (u1 fU) [] (p_ 5 11 (.j ⟨[.val 48 y0],[1,46,47]⟩ (p_ 6 38 (.j ⟨[.val 85 y1],[1,46,47,48]⟩ .e)))) [dh,eV,dc,mh,xr,o0,ep]
noncomputable def pI(a0:ByteArray):Option Bool:=(bif (decide (1<=((ByteArray.size a0:Nat):Int)))then some (decide (((ByteArray.size a0:Nat):Int)<=200))else some false).bind fun b1=>some b1
def CK:=kf func237 [t2] q1 (u1 pI) [] .e []
noncomputable def gD(a0:ByteArray)(a1:ByteArray):Option Int:=bif (decide (a0=a1))then some 0 else(bif (decide (((ByteArray.size a0:Nat):Int)<((ByteArray.size a1:Nat):Int)))then some true else(bif (decide (((ByteArray.size a0:Nat):Int)=((ByteArray.size a1:Nat):Int)))then some (mA a0 a1)else some false).bind fun b1=>some b1).bind fun b2=>bif b2 then some (-1:Int)else some 1
def pX:=kf func238 [t2,t2] q0 (u2 gD) [] .e []
def jG(a0:(List ByteArray)):Option Bool:=aD (fun(v1:Int×Unit)=>bif (decide (v1.1<((a0.length:Nat):Int)))then(idx a0 v1.1).bind fun x2=>(pI x2).bind fun r3=>(bif (!r3)then some true else(bif (decide (0<v1.1))then(idx a0 (ez .i64 v1.1 1)).bind fun x4=>(gD x4 x2).bind fun r5=>some (decide (0<=r5))else some false).bind fun b6=>some b6).bind fun b7=>bif b7 then oR (some false)else some (Sum.inl ((aB .i64 v1.1 1),()))else oR (some (decide (((a0.length:Nat):Int)<=40)))) (0,())
def CN:=kf func229 [t15] q1 (u1 jG) [] (p_ 4 5 (.j ⟨[.val 7 y0],[0,5,6]⟩ .e)) [CK,pX]
noncomputable def kv(a0:(List ByteArray))(a1:ByteArray):Option Bool:=aD (fun(v1:Int×Unit)=>bif (decide (v1.1<((a0.length:Nat):Int)))then(idx a0 v1.1).bind fun x2=>bif (decide (a1=x2))then oR (some true)else some (Sum.inl ((aB .i64 v1.1 1),()))else oR (some false)) (0,())
def wD:=kf func230 [t15,t2] q1 (u2 kv) [] (p_ 4 5 (.j ⟨[.val 9 y0],[1,7,8]⟩ .e)) []
def pK(a0:ax):Option Bool:=(bif (decide (0<=a0.aq))then some (decide (a0.aq<10))else some false).bind fun b1=>(bif b1 then some (decide (1<=a0.aO))else some false).bind fun b2=>(bif b2 then(cn (ae a0.aa)).bind fun r3=>some (decide (r3=0))else some false).bind fun b4=>(bif b4 then(jG a0.cx).bind fun r5=>some r5 else some false).bind fun b6=>(bif b6 then(jG a0.bo).bind fun r7=>some r7 else some false).bind fun b8=>some b8
def CO:=kf func231 [.ty y18] q1 (u1 pK) [] .e [dh,CN]
def lx(a0:aA):Option Bool:=(bif (decide (a0.aq<0))then some true else some (decide (10<=a0.aq))).bind fun b1=>(bif b1 then some true else some (decide (a0.aE<0))).bind fun b2=>(bif b2 then some true else some (decide (1000000<a0.aE))).bind fun b3=>(bif b3 then some true else some (decide (a0.Round<1))).bind fun b4=>(bif b4 then some true else some (decide (1000<a0.Round))).bind fun b5=>(bif b5 then some true else some (decide (a0.aO<1))).bind fun b6=>(bif b6 then some true else some (decide (1000000<a0.aO))).bind fun b7=>bif b7 then some false else(cn (ae a0.aa)).bind fun r8=>(bif (!decide (r8=0))then some true else some (decide (200<((ByteArray.size a0.Own:Nat):Int)))).bind fun b9=>(bif b9 then some true else(jG a0.cx).bind fun r10=>some (!r10)).bind fun b11=>(bif b11 then some true else(jG a0.bo).bind fun r12=>some (!r12)).bind fun b13=>(bif b13 then some true else(jG a0.dG).bind fun r14=>some (!r14)).bind fun b15=>bif b15 then some false else aD (fun(v16:Int×Unit)=>bif (decide (v16.1<((a0.dG.length:Nat):Int)))then(idx a0.dG v16.1).bind fun x17=>(kv a0.bo x17).bind fun r18=>bif (!r18)then oR (some false)else some (Sum.inl ((aB .i64 v16.1 1),()))else oR (aD (fun(v19:Int×Unit)=>bif (decide (v19.1<((a0.aF.length:Nat):Int)))then(idx a0.aF v19.1).bind fun x20=>bm (fun(v21:Bool×Unit)=>bif v21.1 then oR (some false)else some (Sum.inl ((aB .i64 v19.1 1),()))) fun j22=>(pK {x20 with aa:=(ae x20.aa)}).bind fun r23=>bif (!r23)then j22 (true,())else bif (decide (x20.aq=a0.aq))then j22 (true,())else bif (decide (0<v19.1))then(idx a0.aF (ez .i64 v19.1 1)).bind fun x24=>j22 ((decide (x20.aq<=x24.aq)),())else j22 (false,())else oR (some true)) (0,()))) (0,())
def sV:=kf func192 [t7] q1 (u1 lx) [] (p_ 3 7 (.b (p_ 2 1 (.j ⟨[.val 76 y0],[1,74,75]⟩ .e)) (p_ 3 2 (.j ⟨[.val 89 y0],[1,87,88]⟩ (p_ 6 38 (.j ⟨[.val 119 y1],[1,87,88,89]⟩ .e)))))) [dh,CN,wD,CO]
noncomputable def pG(a0:dX):Option Bool:=(bif (decide (0<=a0.an))then some (decide (a0.an<=1000000))else some false).bind fun b1=>(bif b1 then some (decide ((-1:Int)<=a0.nC))else some false).bind fun b2=>(bif b2 then some (decide (a0.nC<=212))else some false).bind fun b3=>some b3
def CJ:=kf func193 [.ty (Ty.st .Timer)] q1 (u1 pG) [] .e []
def ny(a0:ah):Option (ByteArray×Bool×Unit):=(fU {a0 with aa:=(ae a0.aa)}).bind fun r1=>(bif (!r1)then some true else some (!decide (a0.ba=3))).bind fun b2=>bif b2 then some ((ByteArray.mk #[]),false,())else some (a0.aj.Value,true,())
def zP:=kf func194 [t4] (.many [y2,y1]) (u1 ny) [] .e [jE]
def hY(a0:bw):Option Bool:=(fU {a0.au with aa:=(ae a0.au.aa)}).bind fun r1=>(bif (!r1)then some true else(lx {a0.aw with aa:=(ae a0.aw.aa)}).bind fun r2=>some (!r2)).bind fun b3=>(bif b3 then some true else some (!decide (a0.aw.aq=a0.au.aq))).bind fun b4=>(bif b4 then some true else some (!decide (a0.aw.aE=a0.au.aE))).bind fun b5=>(bif b5 then some true else(dy (ae a0.aw.aa) (ae a0.au.aa)).bind fun r6=>some (!r6)).bind fun b7=>(bif b7 then some true else(pG a0.Timer).bind fun r8=>some (!r8)).bind fun b9=>bif b9 then some false else(ny {a0.au with aa:=(ae a0.au.aa)}).bind fun r10=>(bif (decide (1<=a0.Round))then some (decide (a0.Round<=1000))else some false).bind fun b11=>(bif b11 then some (decide (0<=a0.Next))else some false).bind fun b12=>(bif b12 then some (decide (a0.Next<=212))else some false).bind fun b13=>(bif b13 then some (xor false (decide (a0.AJ=r10.2.1)))else some false).bind fun b14=>(bif b14 then some (decide (a0.Value=r10.1))else some false).bind fun b15=>some b15
def lg:=kf func160 [t13] q1 (u1 hY) [] .e [jE,sV,eX,CJ,zP]
def fT(a0:ay):Option Bool:=(bif (decide (a0.aq<0))then some true else some (decide (9<a0.aq))).bind fun b1=>(bif b1 then some true else(cn (ae a0.aa)).bind fun r2=>some (!decide (r2=0))).bind fun b3=>(bif b3 then some true else some (decide (8<((a0.bE.length:Nat):Int)))).bind fun b4=>bif b4 then some false else aD (fun(v5:Int×Unit)=>bif (decide (v5.1<((a0.bE.length:Nat):Int)))then(idx a0.bE v5.1).bind fun x6=>bm (fun(v7:Bool×Unit)=>bif v7.1 then oR (some false)else some (Sum.inl ((aB .i64 v5.1 1),()))) fun j8=>(hY {x6 with aw:={x6.aw with aa:=(ae x6.aw.aa)},au:={x6.au with aa:=(ae x6.au.aa)}}).bind fun r9=>bif (!r9)then j8 (true,())else bif (!decide (x6.au.aq=a0.aq))then j8 (true,())else(dy (ae x6.au.aa) (ae a0.aa)).bind fun r10=>bif (!r10)then j8 (true,())else bif (decide (0<v5.1))then(idx a0.bE (ez .i64 v5.1 1)).bind fun x11=>j8 ((decide (x6.au.aE<=x11.au.aE)),())else j8 (false,())else oR (some true)) (0,())
def jD:=kf func121 [t10] q1 (u1 fT) [] (p_ 5 11 (.j ⟨[.val 28 y0],[1,26,27]⟩ (p_ 6 38 (.j ⟨[.val 70 y1],[1,26,27,28]⟩ .e)))) [dh,lg,eX]
def nP(a0:(List ab))(a1:ab):Option Bool:=aD (fun(v1:Int×Unit)=>bif (decide (v1.1<((a0.length:Nat):Int)))then(idx a0 v1.1).bind fun x2=>(dy (ae x2) (ae a1)).bind fun r3=>bif r3 then oR (some true)else some (Sum.inl ((aB .i64 v1.1 1),()))else oR (some false)) (0,())
def Gl:=kf func122 [.ty y24,t3] q1 (u2 nP) [] (p_ 4 5 (.j ⟨[.val 9 y0],[3,7,8]⟩ .e)) [eX]
def s6(a0:aZ):Option Bool:=(bif (decide (a0.Time<0))then some true else some (decide (200<a0.Time))).bind fun b1=>(bif b1 then some true else some (decide (((a0.aH.length:Nat):Int)<1))).bind fun b2=>(bif b2 then some true else some (decide (10<((a0.aH.length:Nat):Int)))).bind fun b3=>(bif b3 then some true else some (decide (a0.LA<0))).bind fun b4=>(bif b4 then some true else if(bI .u64 ((a0.aH.length:Nat):Int))<0 then none else some (decide ((cP .i64 1 (bI .u64 ((a0.aH.length:Nat):Int)))<=a0.LA))).bind fun b5=>(bif b5 then some true else(jF a0.Net).bind fun r6=>some (!r6)).bind fun b7=>(bif b7 then some true else some (!decide (((a0.cM.length:Nat):Int)=((a0.aH.length:Nat):Int)))).bind fun b8=>bif b8 then some false else aD (fun(v9:Int×Unit)=>bif (decide (v9.1<((a0.aH.length:Nat):Int)))then(idx a0.aH v9.1).bind fun x10=>bm (fun(v11:Bool×Unit)=>bif v11.1 then oR (some false)else(idx a0.cM v9.1).bind fun x13=>aD (fun(v14:Int×Unit)=>bif (decide (v14.1<((x13.length:Nat):Int)))then(idx x13 v14.1).bind fun x15=>bm (fun(v16:Bool×Unit)=>bif v16.1 then oR (oR (some false))else some (Sum.inl ((aB .i64 v14.1 1),()))) fun j17=>(idx a0.cM v9.1).bind fun x18=>bif dN 0 v14.1 (x18.length)then(nP ((x18.take (Int.toNat v14.1)).drop (Int.toNat 0)) (ae x15)).bind fun r19=>bif r19 then j17 (true,())else(cn (ae x15)).bind fun r20=>j17 ((!decide (r20=0)),())else none else oR (some (Sum.inl ((aB .i64 v9.1 1),())))) (0,())) fun j12=>bif (!decide (x10.aq=v9.1))then j12 (true,())else(fT {x10 with aa:=(ae x10.aa)}).bind fun r21=>bif (!r21)then j12 (true,())else(idx a0.cM v9.1).bind fun x22=>bif (decide (4<((x22.length:Nat):Int)))then j12 (true,())else(idx a0.cM v9.1).bind fun x23=>(nP x23 (ae x10.aa)).bind fun r24=>j12 ((!r24),())else oR (some true)) (0,())
def LO:=kf func77 [t8] q1 (u1 s6) [] (p_ 6 23 (.j ⟨[.val 56 y0],[1,54,55]⟩ (p_ 6 38 (.b (.j ⟨[.val 89 y1],[1,4,54,55,56]⟩ .e) (p_ 2 1 (.j ⟨[.val 96 y0],[1,4,54,55,56,94,95]⟩ (p_ 6 38 (.j ⟨[.val 114 y1],[1,4,54,55,56,94,95,96]⟩ .e)))))))) [pk,jD,Gl,dh]
noncomputable def pB(a0:aZ)(a1:Int):Option Bool:=(bif (decide (0<=a1))then some (decide (a1<((a0.aH.length:Nat):Int)))else some false).bind fun b1=>some b1
def CF:=kf func78 [t8,t0] q1 (u2 pB) [] .e []
noncomputable def pQ(a0:Int)(a1:Int):Option Bool:=(bif (decide (0<=a0))then some (decide (a0<=1023))else some false).bind fun b1=>(bif b1 then if(bI .u64 a1)<0 then none else some (decide ((qQ .i64 (oi .i64 a0 (bI .u64 a1)) 1)=1))else some false).bind fun b2=>some b2
def Gm:=kf func196 [t0,t0] q1 (u2 pQ) [] .e []
def qU(a0:aY)(a1:Int):Option Int:=aD (fun(v1:Int×Unit)=>bif (decide (v1.1<((a0.bx.length:Nat):Int)))then(idx a0.bx v1.1).bind fun x2=>(pQ x2 a1).bind fun r3=>bif r3 then oR (some v1.1)else some (Sum.inl ((aB .i64 v1.1 1),()))else oR (some (-1:Int))) (0,())
def NM:=kf func195 [t17,t0] q0 (u2 qU) [] (p_ 4 5 (.j ⟨[.val 10 y0],[1,8,9]⟩ .e)) [Gm]
def pD(a0:aY)(a1:Int)(a2:Int):Option Bool:=(gW a1).bind fun r1=>(bif (!r1)then some true else(gW a2).bind fun r2=>some (!r2)).bind fun b3=>bif b3 then some false else(qU a0 a1).bind fun r4=>(qU a0 a2).bind fun r5=>aD (fun(v6:Int×Unit)=>bif (decide (v6.1<((a0.bx.length:Nat):Int)))then(idx a0.bx v6.1).bind fun x7=>(pQ x7 a1).bind fun r8=>(bif r8 then(pQ x7 a2).bind fun r9=>some r9 else some false).bind fun b10=>bif b10 then oR (some false)else some (Sum.inl ((aB .i64 v6.1 1),()))else oR ((bif (decide (0<=r4))then some (decide (0<=r5))else some false).bind fun b11=>(bif b11 then some (!decide (a1=a2))else some false).bind fun b12=>some b12)) (0,())
def LR:=kf func161 [t17,t0,t0] q1 (u3 pD) [] (p_ 6 23 (.j ⟨[.val 28 y0],[1,2,7,8,26,27]⟩ .e)) [ux,NM,Gm]
def wQ(a0:aY)(a1:Int):Option ((List bD)×aY×Unit):=(jF a0).bind fun r1=>bif (!r1)then some (([]:List bD),a0,())else aD (fun(v2:Int×(List bD)×Unit)=>(bif (decide (v2.1<((a0.bh.length:Nat):Int)))then(idx a0.bh v2.1).bind fun x3=>some (decide (x3.nC<=a1))else some false).bind fun b4=>bif b4 then bm (fun(v5:(List bD)×Unit)=>some (Sum.inl ((aB .i64 v2.1 1),v5.1,()))) fun j6=>(idx a0.bh v2.1).bind fun x7=>(pD a0 x7.o6 x7.To).bind fun r8=>bif (!r8)then bif aT 344 (v2.2.1.length+List.length [{x7 with af:={x7.af with al:={x7.af.al with aa:=(ae x7.af.al.aa)},ai:={x7.af.ai with aa:=(ae x7.af.ai.aa)}}}])then j6 ((v2.2.1++[{x7 with af:={x7.af with al:={x7.af.al with aa:=(ae x7.af.al.aa)},ai:={x7.af.ai with aa:=(ae x7.af.ai.aa)}}}]),())else none else j6 (v2.2.1,())else oR (bif dN v2.1 (a0.bh.length:Int) (a0.bh.length)then bif aT 344 (List.length ((a0.bh.take (Int.toNat (a0.bh.length:Int))).drop (Int.toNat v2.1)))then some (v2.2.1,{a0 with bh:=((a0.bh.take (Int.toNat (a0.bh.length:Int))).drop (Int.toNat v2.1))},())else none else none)) (0,([]:List bD),())
def PK:=kf func123 [t17,t0] (.many [y29,y17]) (u2 wQ) [] (p_ 6 15 (.ps (.own 6 180 28 y26) (.j ⟨[.val 7 y0,.own 6 8 1 180 28 y26],[1,2,5]⟩ (p_ 3 2 (.j ⟨[.own 6 8 1 180 28 y26],[1,2,5,7]⟩ .e))))) [pk,LR]
noncomputable def kL(a0:aZ)(a1:Int):Option Bool:=if(bI .u64 a1)<0 then none else some (decide ((qQ .i64 (oi .i64 a0.LA (bI .u64 a1)) 1)=1))
def yK:=kf func83 [t8,t0] q1 (u2 kL) [] .e []
noncomputable def vb(a0:ay)(a1:Int):Option (Int×Bool×Unit):=aD (fun(v1:Int×Unit)=>(bif (decide (v1.1<((a0.bE.length:Nat):Int)))then(idx a0.bE v1.1).bind fun x2=>some (decide (x2.au.aE<a1))else some false).bind fun b3=>bif b3 then some (Sum.inl ((aB .i64 v1.1 1),()))else oR (bm (fun(v4:Int×Bool×Unit)=>some (v4.1,v4.2.1,())) fun j5=>bif (decide (v1.1<((a0.bE.length:Nat):Int)))then(idx a0.bE v1.1).bind fun x6=>j5 (v1.1,(decide (x6.au.aE=a1)),())else j5 (v1.1,false,()))) (0,())
def Ir:=kf func167 [t10,t0] (.many [y0,y1]) (u2 vb) [] (p_ 2 3 (.b (.l (.j ⟨[.val 6 y0],[1,2]⟩ .e)) (.j ⟨[.val 4 y0,.val 5 y1],[]⟩ .e))) []
def wS(a0:Int)(a1:Int)(a2:ab):Option (ah×Int×Unit):=(bif (decide (a0<0))then some true else some (decide (9<a0))).bind fun b1=>bif b1 then some ((ah.mk 0 0 0 (ab.mk 0 ([]:List Int) ([]:List ab)) 0 zB zB zB zB 0 0 (ByteArray.mk #[]) ([]:List ak)),5,())else(bif (decide (a1<1))then some true else some (decide (1000000<a1))).bind fun b2=>bif b2 then some ((ah.mk 0 0 0 (ab.mk 0 ([]:List Int) ([]:List ab)) 0 zB zB zB zB 0 0 (ByteArray.mk #[]) ([]:List ak)),77,())else(cn (ae a2)).bind fun r3=>bif (!decide (r3=0))then some ((ah.mk 0 0 0 (ab.mk 0 ([]:List Int) ([]:List ab)) 0 zB zB zB zB 0 0 (ByteArray.mk #[]) ([]:List ak)),1,())else some ((ah.mk a0 a1 0 (ae a2) 1 zB zB zB zB 0 0 (ByteArray.mk #[]) ([]:List ak)),0,())
def PM:=kf func205 [t0,t0,t3] (.many [y4,y0]) (u3 wS) [] .e [dh]
def pL(a0:ab)(a1:Int)(a2:Int)(a3:Int):Option Int:=(cn (ae a0)).bind fun r1=>bif (!decide (r1=0))then some r1 else(bif (decide (a1<0))then some true else some (decide (10<=a1))).bind fun b2=>bif b2 then some 5 else(bif (decide (a2<0))then some true else some (decide (1000000<a2))).bind fun b3=>(bif b3 then some true else some (decide (a3<1))).bind fun b4=>(bif b4 then some true else some (decide (1000<a3))).bind fun b5=>bif b5 then some 1 else some 0
def CP:=kf func298 [t3,t0,t0,t0] q0 (u4 pL) [] .e [dh]
noncomputable def HD:SA U:=iN (mI prog 61 [] f305) (.r (.r (.b (.r (.l (.j ⟨[.val 23 y0,.box 1 1 y27 []],[1,2,4,6,21,22]⟩ .e))) (.l (.r (.l (.j ⟨[.val 38 y0,.box 1 1 y27 []],[1,2,4,6,36,37]⟩ .e)))))))
noncomputable def oN(rec:(ab×Int×Unit)->Option (kT×Bool×Unit))(a0:ab)(a1:Int):Option (kT×Bool×Unit):=aD (fun(v1:Int×kT×Unit)=>bif (decide (v1.1<((a0.aH.length:Nat):Int)))then(idx a0.aH v1.1).bind fun x2=>bif (decide (x2=a1))then oR (some ((kT.mk a0.aM (aB .i64 ((a0.aH.length:Nat):Int) ((a0.aL.length:Nat):Int))),true,()))else some (Sum.inl ((aB .i64 v1.1 1),v1.2.1,()))else oR (aD (fun(v3:Int×kT×Unit)=>bif (decide (v3.1<((a0.aL.length:Nat):Int)))then(idx a0.aL v3.1).bind fun x4=>(rec ((ae x4),a1,())).bind fun r5=>bif r5.2.1 then oR (some ((kT.mk (sj .i64 a0.aM r5.1.Ws) (sj .i64 (aB .i64 ((a0.aH.length:Nat):Int) ((a0.aL.length:Nat):Int)) r5.1.Wv)),true,()))else some (Sum.inl ((aB .i64 v3.1 1),v3.2.1,()))else oR (some ((kT.mk 0 0),false,()))) (0,v1.2.1,()))) (0,(kT.mk 0 0),())
noncomputable def wi:Nat->(ab×Int×Unit)->Option (kT×Bool×Unit):=iV (fun rec a=>oN rec a.1 a.2.1)
def wm(a0:ab)(a1:Int):Option (kT×Bool×Unit):=wi (SizeOf.sizeOf a0+SizeOf.sizeOf a1+1) (a0,a1,())
noncomputable def JX:KS U prog:=⟨.fn 305 [t3,t0] (.many [y27,y1]) fun a=>wm a.1 a.2.1,xu (K:=K) (A_s:=[t3,t0]) (r:= .many [y27,y1]) (B:=fun rec a=>oN rec a.1 a.2.1) HD 61 [.cell 4 (some 2),.tmp 5] [] (fk f305 [] func305) (hF:=fun a=>⟨_,rfl⟩)⟩
noncomputable def rj(a0:Int)(a1:Int)(a2:Int)(a3:Int):Option Int:=some (bI .u32 (oi .u64 (iY .u64 (sj .u64 (iY .u64 (sj .u64 (iY .u64 (aB .u64 (iY .u64 (iY .u64 (iY .u64 (cP .u64 (bI .u64 a0) 56) (cP .u64 (bI .u64 a1) 24)) (cP .u64 (bI .u64 a2) 8)) (bI .u64 a3)) 11400714819323198485) (oi .u64 (aB .u64 (iY .u64 (iY .u64 (iY .u64 (cP .u64 (bI .u64 a0) 56) (cP .u64 (bI .u64 a1) 24)) (cP .u64 (bI .u64 a2) 8)) (bI .u64 a3)) 11400714819323198485) 30)) 13787848793156543929) (oi .u64 (sj .u64 (iY .u64 (aB .u64 (iY .u64 (iY .u64 (iY .u64 (cP .u64 (bI .u64 a0) 56) (cP .u64 (bI .u64 a1) 24)) (cP .u64 (bI .u64 a2) 8)) (bI .u64 a3)) 11400714819323198485) (oi .u64 (aB .u64 (iY .u64 (iY .u64 (iY .u64 (cP .u64 (bI .u64 a0) 56) (cP .u64 (bI .u64 a1) 24)) (cP .u64 (bI .u64 a2) 8)) (bI .u64 a3)) 11400714819323198485) 30)) 13787848793156543929) 27)) 10723151780598845931) (oi .u64 (sj .u64 (iY .u64 (sj .u64 (iY .u64 (aB .u64 (iY .u64 (iY .u64 (iY .u64 (cP .u64 (bI .u64 a0) 56) (cP .u64 (bI .u64 a1) 24)) (cP .u64 (bI .u64 a2) 8)) (bI .u64 a3)) 11400714819323198485) (oi .u64 (aB .u64 (iY .u64 (iY .u64 (iY .u64 (cP .u64 (bI .u64 a0) 56) (cP .u64 (bI .u64 a1) 24)) (cP .u64 (bI .u64 a2) 8)) (bI .u64 a3)) 11400714819323198485) 30)) 13787848793156543929) (oi .u64 (sj .u64 (iY .u64 (aB .u64 (iY .u64 (iY .u64 (iY .u64 (cP .u64 (bI .u64 a0) 56) (cP .u64 (bI .u64 a1) 24)) (cP .u64 (bI .u64 a2) 8)) (bI .u64 a3)) 11400714819323198485) (oi .u64 (aB .u64 (iY .u64 (iY .u64 (iY .u64 (cP .u64 (bI .u64 a0) 56) (cP .u64 (bI .u64 a1) 24)) (cP .u64 (bI .u64 a2) 8)) (bI .u64 a3)) 11400714819323198485) 30)) 13787848793156543929) 27)) 10723151780598845931) 31)) 32))
def D1:=kf func300 [t0,t0,t0,t0] (.one (Ty.i .u32)) (u4 rj) [] .e []
def od(a0:ab)(a1:Int)(a2:Int)(a3:Int)(a4:Int):Option Bool:=(pL (ae a0) a1 a2 a3).bind fun r1=>(bif (!decide (r1=0))then some true else some (decide (a4<0))).bind fun b2=>(bif b2 then some true else some (decide (10<=a4))).bind fun b3=>bif b3 then some false else(wm (ae a0) a4).bind fun r4=>bm (fun(v5:Bool×Unit)=>some v5.1) fun j6=>bif (decide (a4=a1))then j6 (true,())else bif r4.2.1 then(rj 1 a2 a3 a4).bind fun r7=>j6 ((decide ((sj .i64 (bI .i64 r7) r4.1.Wv)<(cP .i64 r4.1.Ws 32))),())else j6 (false,())
def FM:=kf func299 [t3,t0,t0,t0,t0] q1 (u5 od) [] (p_ 3 7 (.j ⟨[.val 10 y1],[]⟩ .e)) [CP,JX,D1]
def oG(a0:ab)(a1:Int)(a2:Int)(a3:Int):Option (Int×Int×Unit):=(pL (ae a0) a1 a2 a3).bind fun r1=>bif (!decide (r1=0))then some (0,r1,())else aD (fun(v2:Int×Int×Unit)=>bif (decide (v2.2.1<10))then bm (fun(v3:Int×Unit)=>some (Sum.inl (v3.1,(aB .i64 v2.2.1 1),()))) fun j4=>(od (ae a0) a1 a2 a3 v2.2.1).bind fun r5=>bif (!r5)then j4 (v2.1,())else(rj 2 a2 a3 v2.2.1).bind fun r6=>(rj 2 a2 a3 v2.1).bind fun r7=>(bif (decide (r7<r6))then some true else(bif (decide (r6=r7))then some (decide (v2.1<v2.2.1))else some false).bind fun b8=>some b8).bind fun b9=>bif b9 then j4 (v2.2.1,())else j4 (v2.1,())else oR (some (v2.1,0,()))) (a1,0,())
def JY:=kf func284 [t3,t0,t0,t0] (.many [y0,y0]) (u4 oG) [] (p_ 6 23 (.j ⟨[.val 11 y0,.val 12 y0],[1,2,3,4]⟩ (p_ 2 2 (.j ⟨[.val 11 y0],[1,2,3,4,12]⟩ .e)))) [CP,FM,D1]
def qk(a0:ab)(a1:Int)(a2:Int)(a3:Int):Option (Int×Int×Unit):=(oG (ae a0) a1 a2 a3).bind fun r1=>bif (!decide (r1.2.1=0))then some (0,r1.2.1,())else aD (fun(v2:Int×Int×Unit)=>bif (decide (v2.2.1<=a3))then bm (fun(v3:Int×Unit)=>some (Sum.inl (v3.1,(aB .i64 v2.2.1 1),()))) fun j4=>(oG (ae a0) a1 a2 v2.2.1).bind fun r5=>(jn v2.1 r5.1).bind fun r6=>bif (!r6)then if r5.1<0 then none else j4 ((qy .i64 v2.1 (cP .i64 1 r5.1)),())else j4 (v2.1,())else oR (some (v2.1,0,()))) (0,1,())
def IE:=kf func267 [t3,t0,t0,t0] (.many [y0,y0]) (u4 qk) [] (p_ 6 23 (.j ⟨[.val 12 y0,.val 13 y0],[1,2,3,4]⟩ (p_ 2 2 (.j ⟨[.val 12 y0],[1,2,3,4,13]⟩ .e)))) [JY,nH]
def mS(a0:Int):Option (List Int):=aD (fun(v1:Int×(List Int)×Unit)=>bif (decide (v1.1<10))then bm (fun(v2:(List Int)×Unit)=>some (Sum.inl ((aB .i64 v1.1 1),v2.1,()))) fun j3=>(jn a0 v1.1).bind fun r4=>bif r4 then bif aT 8 (v1.2.1.length+List.length [v1.1])then j3 ((v1.2.1++[v1.1]),())else none else j3 (v1.2.1,())else oR (some v1.2.1)) (0,([]:List Int),())
def CQ:=kf func268 [t0] (.one y12) (u1 mS) [] (p_ 5 11 (.ps (.own 3 3 1 y0) (.j ⟨[.val 4 y0,.own 3 3 1 3 1 y0],[0]⟩ (p_ 2 2 (.j ⟨[.own 3 3 1 3 1 y0],[0,4]⟩ .e))))) [nH]
def nQ(a0:(List ByteArray))(a1:ByteArray):Option (List ByteArray):=(kv a0 a1).bind fun r1=>(bif r1 then some true else some (decide (40<=((a0.length:Nat):Int)))).bind fun b2=>bif b2 then some a0 else aD (fun(v3:Bool×Int×(List ByteArray)×Unit)=>bif (decide (v3.2.1<((a0.length:Nat):Int)))then(idx a0 v3.2.1).bind fun x4=>bm (fun(v5:Bool×(List ByteArray)×Unit)=>bif aT 16 (v5.2.1.length+List.length [x4])then some (Sum.inl (v5.1,(aB .i64 v3.2.1 1),(v5.2.1++[x4]),()))else none) fun j6=>(bif (!v3.1)then(gD a1 x4).bind fun r7=>some (decide (r7<0))else some false).bind fun b8=>bif b8 then bif aT 16 (v3.2.2.1.length+List.length [a1])then j6 (true,(v3.2.2.1++[a1]),())else none else j6 (v3.1,v3.2.2.1,())else oR (bm (fun(v9:(List ByteArray)×Unit)=>some v9.1) fun j10=>bif (!v3.1)then bif aT 16 (v3.2.2.1.length+List.length [a1])then j10 ((v3.2.2.1++[a1]),())else none else j10 (v3.2.2.1,()))) (false,0,([]:List ByteArray),())
def Gn:=kf func252 [t15,t2] (.one y15) (u2 nQ) [] (p_ 4 15 (.b (p_ 2 1 (.ps (.own 5 9 1 y2) (.j ⟨[.val 6 y1,.val 20 y0,.own 5 14 1 9 1 y2],[1,18,19]⟩ (p_ 6 38 (.j ⟨[.val 6 y1,.own 5 14 1 9 1 y2],[1,8,18,19,20]⟩ .e))))) (.j ⟨[.own 5 14 1 9 1 y2],[]⟩ .e))) [wD,pX]
def lv(a0:(List ByteArray))(a1:(List ByteArray)):Option (List ByteArray):=aD (fun(v1:Int×Int×(List ByteArray)×Unit)=>(bif (decide (v1.1<((a0.length:Nat):Int)))then some true else some (decide (v1.2.1<((a1.length:Nat):Int)))).bind fun b2=>bif b2 then bm (fun(v3:Int×Int×ByteArray×Unit)=>bif aT 16 (v1.2.2.1.length+List.length [v3.2.2.1])then some (Sum.inl (v3.1,v3.2.1,(v1.2.2.1++[v3.2.2.1]),()))else none) fun j4=>bm (fun(v5:Bool×Unit)=>bif v5.1 then(idx a0 v1.1).bind fun x7=>j4 ((aB .i64 v1.1 1),v1.2.1,x7,())else bm (fun(v8:Bool×Unit)=>bif v8.1 then(idx a1 v1.2.1).bind fun x10=>j4 (v1.1,(aB .i64 v1.2.1 1),x10,())else(idx a0 v1.1).bind fun x11=>j4 ((aB .i64 v1.1 1),(aB .i64 v1.2.1 1),x11,())) fun j9=>bif (decide (v1.1=((a0.length:Nat):Int)))then j9 (true,())else(idx a0 v1.1).bind fun x12=>(idx a1 v1.2.1).bind fun x13=>(gD x12 x13).bind fun r14=>j9 ((decide (0<r14)),())) fun j6=>bif (decide (v1.2.1=((a1.length:Nat):Int)))then j6 (true,())else bif (decide (v1.1<((a0.length:Nat):Int)))then(idx a0 v1.1).bind fun x15=>(idx a1 v1.2.1).bind fun x16=>(gD x15 x16).bind fun r17=>j6 ((decide (r17<0)),())else j6 (false,())else oR (some v1.2.2.1)) (0,0,([]:List ByteArray),())
def CL:=kf func269 [t15,t15] (.one y15) (u2 lv) [] (p_ 5 11 (.ps (.own 5 9 1 y2) (.j ⟨[.val 6 y0,.val 7 y0,.own 5 4 1 9 1 y2],[0,1]⟩ (p_ 4 10 (.j ⟨[.val 6 y0,.val 7 y0,.val 8 y2],[0,1,5]⟩ (p_ 2 0 (.j ⟨[.val 27 y1],[0,1,5,6,7]⟩ (p_ 2 3 (.j ⟨[.val 56 y1],[0,1,5,6,7]⟩ .e))))))))) [pX]
def rX(a0:aA):Option aA:=(qk (ae a0.aa) a0.aq a0.aE a0.Round).bind fun r1=>(mS r1.1).bind fun r2=>aD (fun(v3:Int×aA×Unit)=>bif (decide (v3.1<((r2.length:Nat):Int)))then bm (fun(v4:aA×Unit)=>some (Sum.inl ((aB .i64 v3.1 1),{v4.1 with aa:=(ae v4.1.aa)},()))) fun j5=>(idx r2 v3.1).bind fun x6=>bif (decide (x6=v3.2.1.aq))then bm (fun(v7:aA×Unit)=>j5 ({v7.1 with aa:=(ae v7.1.aa)},())) fun j8=>bif (!decide (v3.2.1.Own=(ByteArray.mk #[])))then(nQ v3.2.1.cx v3.2.1.Own).bind fun r9=>j8 ({v3.2.1 with aa:=(ae v3.2.1.aa),cx:=r9},())else j8 ({v3.2.1 with aa:=(ae v3.2.1.aa)},())else aD (fun(v10:Int×aA×Unit)=>bif (decide (v10.1<((v3.2.1.aF.length:Nat):Int)))then bm (fun(v11:aA×Unit)=>some (Sum.inl ((aB .i64 v10.1 1),{v11.1 with aa:=(ae v11.1.aa)},()))) fun j12=>(idx v3.2.1.aF v10.1).bind fun x13=>bif (!decide (x13.aq=x6))then j12 ({v10.2.1 with aa:=(ae v10.2.1.aa)},())else(lv x13.cx x13.bo).bind fun r14=>aD (fun(v15:Int×aA×Unit)=>bif (decide (v15.1<((r14.length:Nat):Int)))then(idx r14 v15.1).bind fun x16=>(nQ v15.2.1.cx x16).bind fun r17=>some (Sum.inl ((aB .i64 v15.1 1),{v15.2.1 with aa:=(ae v15.2.1.aa),cx:=r17},()))else oR (j12 ({v15.2.1 with aa:=(ae v15.2.1.aa)},()))) (0,{v10.2.1 with aa:=(ae v10.2.1.aa)},())else oR (j5 ({v10.2.1 with aa:=(ae v10.2.1.aa)},()))) (0,{v3.2.1 with aa:=(ae v3.2.1.aa)},())else oR (some {v3.2.1 with aa:=(ae v3.2.1.aa)})) (0,{a0 with aa:=(ae a0.aa)},())
def JV:=kf func249 [t7] (.one y7) (u1 rX) [] (p_ 5 11 (.j ⟨[.val 26 y0,.box 0 1 y7 []],[1,2,24,25]⟩ (p_ 3 6 (.j ⟨[.box 0 1 y7 []],[1,2,24,25,26]⟩ (p_ 3 4 (.b (p_ 2 1 (.j ⟨[.box 0 1 y7 []],[1,2,24,25,26]⟩ .e)) (p_ 2 1 (.j ⟨[.val 46 y0,.box 0 1 y7 []],[1,2,6,24,25,26,44,45]⟩ (p_ 3 6 (.j ⟨[.box 0 1 y7 []],[1,2,6,24,25,26,44,45,46]⟩ (p_ 6 28 (.j ⟨[.val 60 y0,.box 0 1 y7 []],[1,2,6,24,25,26,44,45,46,58,59]⟩ .e)))))))))))) [IE,CQ,Gn,CL]
def tc(a0:aA):Option (List ByteArray):=(lv a0.cx a0.bo).bind fun r1=>aD (fun(v2:(List ByteArray)×Int×Unit)=>bif (decide (v2.2.1<((a0.aF.length:Nat):Int)))then(idx a0.aF v2.2.1).bind fun x3=>(lv x3.cx x3.bo).bind fun r4=>(lv v2.1 r4).bind fun r5=>some (Sum.inl (r5,(aB .i64 v2.2.1 1),()))else oR (some v2.1)) (r1,0,())
def LZ:=kf func250 [t7] (.one y15) (u1 tc) [] (p_ 5 11 (.j ⟨[.val 3 y15,.val 14 y0],[12,13]⟩ .e)) [CL]
noncomputable def sR(a0:aA):Option ax:=some {a0 with aa:=(ae a0.aa)}
def Gp:=kf func203 [t7] (.one y18) (u1 sR) [] .e []
def pJ(a0:aA)(a1:ByteArray):Option (Int×Int×Unit):=bif aT 120 (List.length ([]:List ax)+a0.aF.length)then(sR {a0 with aa:=(ae a0.aa)}).bind fun r1=>bif aT 120 (List.length (([]:List ax)++a0.aF)+List.length [{r1 with aa:=(ae r1.aa)}])then aD (fun(v2:Int×Int×Int×Unit)=>bif (decide (v2.2.2.1<((List.length ((([]:List ax)++a0.aF)++[{r1 with aa:=(ae r1.aa)}]):Nat):Int)))then bm (fun(v3:Int×Int×Unit)=>some (Sum.inl (v3.1,v3.2.1,(aB .i64 v2.2.2.1 1),()))) fun j4=>(idx ((([]:List ax)++a0.aF)++[{r1 with aa:=(ae r1.aa)}]) v2.2.2.1).bind fun x5=>(((([]:List ax)++a0.aF)++[{r1 with aa:=(ae r1.aa)}])[(Int.toNat v2.2.2.1)]?).bind fun x6=>bm (fun(v7:Int×Unit)=>(kv x6.bo a1).bind fun r9=>bif r9 then if x6.aq<0 then none else j4 (v7.1,(qy .i64 v2.2.1 (cP .i64 1 x6.aq)),())else j4 (v7.1,v2.2.1,())) fun j8=>(kv x6.cx a1).bind fun r10=>bif r10 then if x6.aq<0 then none else j8 ((qy .i64 v2.1 (cP .i64 1 x6.aq)),())else j8 (v2.1,())else oR (some (v2.1,v2.2.1,()))) (0,0,0,())else none else none
def CM:=kf func253 [t7,t2] (.many [y0,y0]) (u2 pJ) [10] (p_ 5 11 (.j ⟨[.val 6 y0,.val 7 y0,.val 19 y0],[1,17,18]⟩ (p_ 3 6 (.j ⟨[.val 6 y0,.val 7 y0],[1,17,18,19]⟩ (p_ 3 4 (.j ⟨[.val 6 y0],[1,7,9,17,18,19]⟩ .e)))))) [Gp,wD]
noncomputable def CV(a0:jN):Option Bool:=(bif (decide (0<=a0.uP))then some (decide (a0.uP<8))else some false).bind fun b1=>(bif b1 then some (decide (0<=a0.Value))else some false).bind fun b2=>(bif b2 then some (decide (a0.Value<=15))else some false).bind fun b3=>some b3
def L5:=kf func306 [.ty (Ty.st .Claim)] q1 (u1 CV) [] .e []
noncomputable def Ag(a0:jN)(a1:jN):Option Int:=bif (xor false (decide (a0.uP=a1.uP)&&(decide (a0.Value=a1.Value)&&true)))then some 0 else(bif (decide (a0.uP<a1.uP))then some true else(bif (decide (a0.uP=a1.uP))then some (decide (a0.Value<a1.Value))else some false).bind fun b1=>some b1).bind fun b2=>bif b2 then some (-1:Int)else some 1
def IF:=kf func307 [.ty (Ty.st .Claim),.ty (Ty.st .Claim)] q0 (u2 Ag) [] .e []
def pM(a0:(List jN)):Option Bool:=aD (fun(v1:Int×Unit)=>bif (decide (v1.1<((a0.length:Nat):Int)))then(idx a0 v1.1).bind fun x2=>bm (fun(v3:Bool×Unit)=>bif v3.1 then oR (some false)else some (Sum.inl ((aB .i64 v1.1 1),()))) fun j4=>(CV x2).bind fun r5=>bif (!r5)then j4 (true,())else bif (decide (0<v1.1))then(idx a0 (ez .i64 v1.1 1)).bind fun x6=>(Ag x6 x2).bind fun r7=>j4 ((decide (0<=r7)),())else j4 (false,())else oR (some true)) (0,())
def L6:=kf func301 [.ty (Ty.sl (Ty.st .Claim))] q1 (u1 pM) [] (p_ 4 5 (.j ⟨[.val 7 y0],[0,5,6]⟩ (p_ 6 38 (.j ⟨[.val 28 y1],[0,5,6,7]⟩ .e)))) [L5,IF]
def td(a0:gw):Option Bool:=(bif (decide (0<=a0.aq))then some (decide (a0.aq<10))else some false).bind fun b1=>(bif b1 then some (decide (1<=a0.aO))else some false).bind fun b2=>(bif b2 then(cn (ae a0.aa)).bind fun r3=>some (decide (r3=0))else some false).bind fun b4=>(bif b4 then(pM a0.cx).bind fun r5=>some r5 else some false).bind fun b6=>(bif b6 then(pM a0.bo).bind fun r7=>some r7 else some false).bind fun b8=>some b8
def L4:=kf func286 [.ty (Ty.st .Message)] q1 (u1 td) [] .e [dh,L6]
def vp(a0:Int)(a1:ab)(a2:(List gw)):Option bQ:=bif decide ((10:Int)<=10)&&decide ((0:Int)<=10)&&aT 64 (Int.toNat 10)then aD (fun(v1:Int×bQ×(List aU)×Unit)=>bif (decide (v1.1<((a2.length:Nat):Int)))then bm (fun(v2:bQ×(List aU)×Unit)=>some (Sum.inl ((aB .i64 v1.1 1),(bQ.mk ([]:List aU)),v2.2.1,()))) fun j3=>(idx a2 v1.1).bind fun x4=>(td {x4 with aa:=(ae x4.aa)}).bind fun r5=>bif r5 then(idx v1.2.2.1 x4.aq).bind fun x6=>(v1.2.2.1[(Int.toNat x4.aq)]?).bind fun x7=>j3 ((bQ.mk ([]:List aU)),(v1.2.2.1.set (Int.toNat x4.aq) (aU.mk true (ae x4.aa))),())else j3 ((bQ.mk ([]:List aU)),v1.2.2.1,())else oR (bm (fun(v8:bQ×(List aU)×Unit)=>some (bQ.mk v8.2.1)) fun j9=>(bif (decide (0<=a0))then some (decide (a0<10))else some false).bind fun b10=>bif b10 then(idx v1.2.2.1 a0).bind fun x11=>(v1.2.2.1[(Int.toNat a0)]?).bind fun x12=>(cn (ae a1)).bind fun r13=>bif (decide (r13=0))then(idx (v1.2.2.1.set (Int.toNat a0) (aU.mk false (ab.mk 0 ([]:List Int) ([]:List ab)))) a0).bind fun x14=>((v1.2.2.1.set (Int.toNat a0) (aU.mk false (ab.mk 0 ([]:List Int) ([]:List ab))))[(Int.toNat a0)]?).bind fun x15=>j9 ((bQ.mk ([]:List aU)),((v1.2.2.1.set (Int.toNat a0) (aU.mk false (ab.mk 0 ([]:List Int) ([]:List ab)))).set (Int.toNat a0) (aU.mk true (ae a1))),())else j9 ((bQ.mk ([]:List aU)),(v1.2.2.1.set (Int.toNat a0) (aU.mk false (ab.mk 0 ([]:List Int) ([]:List ab)))),())else j9 ((bQ.mk ([]:List aU)),v1.2.2.1,()))) (0,(bQ.mk ([]:List aU)),(List.replicate (Int.toNat 10) (aU.mk false (ab.mk 0 ([]:List Int) ([]:List ab)))),())else none
def N6:=kf func271 [t0,t3,.ty (Ty.sl (Ty.st .Message))] (.one y16) (u3 vp) [] (p_ 2 3 (.b (p_ 2 1 (.j ⟨[.val 14 y0,.box 4 1 y16 [(0,2,1)],.eR 2 1 97 4 y22],[0,4,6,7,12,13]⟩ (p_ 3 6 (.j ⟨[.box 4 1 y16 [(0,2,1)],.eR 2 1 97 4 y22],[0,4,6,7,12,13,14]⟩ .e)))) (.j ⟨[.box 4 1 y16 [(0,2,1)],.eR 2 1 97 4 y22],[6,7]⟩ .e))) [L4,dh]
def ri(a0:aA):Option bQ:=aD (fun(v1:Int×(List gw)×Unit)=>bif (decide (v1.1<((a0.aF.length:Nat):Int)))then(idx a0.aF v1.1).bind fun x2=>bif aT 120 (v1.2.1.length+List.length [(gw.mk x2.aq x2.aO (ae x2.aa) ([]:List jN) ([]:List jN))])then some (Sum.inl ((aB .i64 v1.1 1),(v1.2.1++[(gw.mk x2.aq x2.aO (ae x2.aa) ([]:List jN) ([]:List jN))]),()))else none else oR ((vp a0.aq (ae a0.aa) v1.2.1).bind fun r3=>some r3)) (0,([]:List gw),())
def D0:=kf func255 [t7] (.one y16) (u1 ri) [] (p_ 2 3 (.b (p_ 2 1 (.ps (.own 3 314 7 (Ty.st .Message)) (.j ⟨[.val 9 y0,.own 3 7 1 314 7 (Ty.st .Message)],[1,2,7,8]⟩ .e))) (.l (.g [(0,.ps (.zX 3))])))) [N6]
noncomputable def kc(a0:bQ):Option Int:=aD (fun(v1:Int×Int×Unit)=>bif (decide (v1.2.1<((a0.bq.length:Nat):Int)))then bm (fun(v2:Int×Unit)=>some (Sum.inl (v2.1,(aB .i64 v1.2.1 1),()))) fun j3=>(idx a0.bq v1.2.1).bind fun x4=>(bif (decide (v1.2.1<10))then some x4.dD else some false).bind fun b5=>bif b5 then if v1.2.1<0 then none else j3 ((qy .i64 v1.1 (cP .i64 1 v1.2.1)),())else j3 (v1.1,())else oR (some v1.1)) (0,0,())
def tz:=kf func272 [t16] q0 (u1 kc) [] (p_ 5 11 (.j ⟨[.val 3 y0,.val 9 y0],[7,8]⟩ (p_ 3 6 (.j ⟨[.val 3 y0],[7,8,9]⟩ .e)))) []
noncomputable def Dm:SA U:=iN (mI prog 43 [] f287) (.r (.r (.r (.b (.r (.l (.j ⟨[.val 5 y0,.val 16 y0],[1,2,14,15]⟩ (.l (.r (.r (.j ⟨[.val 5 y0],[1,2,14,15,16]⟩ .e))))))) (.l (.r (.l (.j ⟨[.val 5 y0,.val 29 y0],[1,2,27,28]⟩ (.l (.r (.r (.j ⟨[.val 5 y0],[1,2,27,28,29]⟩ .e))))))))))))
def lF(rec:(ab×Int×Unit)->Option Bool)(a0:ab)(a1:Int):Option Bool:=(eD a1).bind fun r1=>bif (!r1)then some false else aD (fun(v2:Int×Int×Unit)=>bif (decide (v2.2.1<((a0.aH.length:Nat):Int)))then bm (fun(v3:Int×Unit)=>some (Sum.inl (v3.1,(aB .i64 v2.2.1 1),()))) fun j4=>(idx a0.aH v2.2.1).bind fun x5=>(jn a1 x5).bind fun r6=>bif r6 then j4 ((aB .i64 v2.1 1),())else j4 (v2.1,())else oR (aD (fun(v7:Int×Int×Unit)=>bif (decide (v7.2.1<((a0.aL.length:Nat):Int)))then bm (fun(v8:Int×Unit)=>some (Sum.inl (v8.1,(aB .i64 v7.2.1 1),()))) fun j9=>(idx a0.aL v7.2.1).bind fun x10=>(rec ((ae x10),a1,())).bind fun r11=>bif r11 then j9 ((aB .i64 v7.1 1),())else j9 (v7.1,())else oR (some (decide (a0.aM<=v7.1)))) (v2.1,0,()))) (0,0,())
noncomputable def sw:Nat->(ab×Int×Unit)->Option Bool:=iV (fun rec a=>lF rec a.1 a.2.1)
def lD(a0:ab)(a1:Int):Option Bool:=sw (SizeOf.sizeOf a0+SizeOf.sizeOf a1+1) (a0,a1,())
noncomputable def xz:KS U prog:=⟨.fn 287 [t3,t0] q1 fun a=>lD a.1 a.2.1,xu (K:=K) (A_s:=[t3,t0]) (r:= .one y1) (B:=fun rec a=>lF rec a.1 a.2.1) Dm 43 [.tmp 4] [mN,nH] (fk f287 [] func287) (hF:=fun a=>⟨_,rfl⟩)⟩
def lX(a0:bQ)(a1:Int)(a2:Int):Option Bool:=(eD a2).bind fun r1=>(bif (!r1)then some true else(kc a0).bind fun r2=>(jn r2 a1).bind fun r3=>some (!r3)).bind fun b4=>bif b4 then some false else(idx a0.bq a1).bind fun x5=>if a1<0 then none else(lD (ae x5.aa) (qy .i64 (ez .i64 1023 a2) (cP .i64 1 a1))).bind fun r6=>some (!r6)
def Bf:=kf func285 [t16,t0,t0] q1 (u3 lX) [] .e [mN,tz,nH,xz]
def mD(a0:bQ)(a1:Int):Option (List Int):=(eD a1).bind fun r1=>bif (!r1)then some ([]:List Int)else(kc a0).bind fun r2=>aD (fun(v3:Int×Bool×(List Int)×Unit)=>bif v3.2.1 then(mS v3.1).bind fun r4=>aD (fun(v5:Int×Bool×Int×(List Int)×Unit)=>bif (decide (v5.2.2.1<((r4.length:Nat):Int)))then(idx r4 v5.2.2.1).bind fun x6=>(idx a0.bq x6).bind fun x7=>(lD (ae x7.aa) v5.1).bind fun r8=>bif (!r8)then if x6<0 then none else bif aT 8 (v5.2.2.2.1.length+List.length [x6])then oR (some (Sum.inl ((ez .i64 v5.1 (cP .i64 1 x6)),true,(v5.2.2.2.1++[x6]),())))else none else some (Sum.inl (v5.1,v5.2.1,(aB .i64 v5.2.2.1 1),v5.2.2.2.1,()))else oR (some (Sum.inl (v5.1,v5.2.1,v5.2.2.2.1,())))) (v3.1,false,0,v3.2.2.1,())else oR (some v3.2.2.1)) ((qQ .i64 a1 r2),true,([]:List Int),())
def C4:=kf func273 [t16,t0] (.one y12) (u2 mD) [] (p_ 7 47 (.ps (.own 6 3 1 y0) (.j ⟨[.val 5 y0,.val 7 y1,.own 6 12 1 3 1 y0],[2]⟩ (p_ 6 26 (.j ⟨[.val 5 y0,.val 7 y1,.val 21 y0,.own 6 12 1 3 1 y0],[2,19,20]⟩ .e))))) [mN,tz,CQ,xz]
def ja(a0:bQ)(a1:Int):Option Int:=(eD a1).bind fun r1=>bif (!r1)then some 0 else(kc a0).bind fun r2=>(mD a0 a1).bind fun r3=>aD (fun(v4:Int×Int×Unit)=>bif (decide (v4.2.1<((r3.length:Nat):Int)))then(idx r3 v4.2.1).bind fun x5=>if x5<0 then none else some (Sum.inl ((ez .i64 v4.1 (cP .i64 1 x5)),(aB .i64 v4.2.1 1),()))else oR (some v4.1)) ((qQ .i64 a1 r2),0,())
def tx:=kf func257 [t16,t0] q0 (u2 ja) [] (p_ 6 23 (.j ⟨[.val 5 y0,.val 19 y0],[17,18]⟩ .e)) [mN,tz,C4]
def k9(a0:bQ)(a1:Int)(a2:Int)(a3:Int):Option Bool:=(eD a2).bind fun r1=>(bif (!r1)then some true else(eD a3).bind fun r2=>some (!r2)).bind fun b3=>bif b3 then some false else(lX a0 a1 a3).bind fun r4=>(bif r4 then some true else(ja a0 (qy .i64 a2 a3)).bind fun r5=>(jn r5 a1).bind fun r6=>some r6).bind fun b7=>some b7
def uB:=kf func270 [t16,t0,t0,t0] q1 (u4 k9) [] .e [mN,Bf,tx,nH]
def wV(a0:aA)(a1:ByteArray):Option Bool:=(pJ {a0 with aa:=(ae a0.aa)} a1).bind fun r1=>bm (fun(v2:Bool×Unit)=>some v2.1) fun j3=>(kv a0.bo a1).bind fun r4=>bif (!r4)then bif (decide (((a0.bo.length:Nat):Int)<40))then(ri {a0 with aa:=(ae a0.aa)}).bind fun r5=>(k9 r5 a0.aq r1.1 r1.2.1).bind fun r6=>j3 (r6,())else j3 (false,())else j3 (false,())
def PO:=kf func251 [t7,t2] q1 (u2 wV) [] (p_ 2 3 (.j ⟨[.val 4 y1],[]⟩ .e)) [CM,wD,D0,uB]
def kb(a0:bQ)(a1:Int)(a2:Int):Option Bool:=(ja a0 a2).bind fun r1=>(jn r1 a1).bind fun r2=>some r2
def tw:=kf func254 [t16,t0,t0] q1 (u3 kb) [] .e [tx,nH]
noncomputable def fV(a0:(List ByteArray))(a1:(List ByteArray)):Option Bool:=bif (!decide (((a0.length:Nat):Int)=((a1.length:Nat):Int)))then some false else aD (fun(v1:Int×Unit)=>bif (decide (v1.1<((a0.length:Nat):Int)))then(idx a0 v1.1).bind fun x2=>(idx a1 v1.1).bind fun x3=>bif (!decide (x2=x3))then oR (some false)else some (Sum.inl ((aB .i64 v1.1 1),()))else oR (some true)) (0,())
def yN:=kf func172 [t15,t15] q1 (u2 fV) [] (p_ 5 11 (.j ⟨[.val 13 y0],[0,1,12]⟩ .e)) []
end Go.Proofs.YtnhgcpiljggmmaaGreatDoor
end
