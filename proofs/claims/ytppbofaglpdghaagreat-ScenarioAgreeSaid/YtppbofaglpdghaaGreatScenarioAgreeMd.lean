/-
  Texts made small by a program (see NOTES). Conditions: those that each theorem names.
-/
import Derived.Test.YtppbofaglpdghaaGreatScenarioAgreeMc
set_option linter.unusedVariables false
set_option linter.defProp false
set_option linter.unusedSimpArgs false
set_option linter.unusedSectionVars false
set_option maxHeartbeats 2000000
open Int (toNat)
open Sum (inl inr)
open List (replicate)
noncomputable section
namespace Go.TQ
open Go.Proofs Go.Sort
def df{α:Type}(c:α->α->Y Int)(x y:α):Int:=(c x y).getD 0
structure P4 {α:Type} (c:α->α->Option Int):Prop where
 some:∀x y,c x y=some (df c x y)
 ord:Go.Sort.SWO (ltOf (df c))
 KM:∀x y,ltOf (df c) x y=false->ltOf (df c) y x=false->x=y
def HD{α:Type}(lt:α->α->Bool)(x:α):Z α->Z α
 |[]=>[x]
 |y::l=>bif lt y x then y::HD lt x l else x::y::l
def EG{α:Type}(lt:α->α->Bool):Z α->Z α
 |[]=>[]
 |x::l=>HD lt x (EG lt l)
def Lu{α:Type}[DecidableEq α](c:α->α->Y Int):Z α->Bool
 |[]=>true
 |x::l=>(c x x).isSome&& !ltOf (df c) x x&&l.all (λy=>(c x y).isSome&&(c y x).isSome&&bif ltOf (df c) x y then !ltOf (df c) y x else decide (x=y))&&Lu c l
def Lv{α:Type}[DecidableEq α](c:α->α->Y Int)(s:Z α):Bool:=Lu c (EG (ltOf (df c)) s)
def yY{α:Type}[DecidableEq α](c:α->α->Y Int)(s:Z α):Y (Unit×Z α):=bif Lv c s&&decide (s.length<4611686018427387904)then some ((),EG (ltOf (df c)) s)else none
def CL{α:Type}{lt:α->α->Bool}{x:α}:∀{l:Z α},(HD lt x l).Perm (x::l)
 |[]=> .refl _
 |y::l=>by
  rw[HD]
  cases lt y x with
  |true=>exact(List.Perm.cons y CL).trans (List.Perm.swap x y l)
  |false=>exact .refl _
def ur{α:Type}{lt:α->α->Bool}:∀{l:Z α},(EG lt l).Perm l
 |[]=> .refl _
 |x::l=>CL.trans (List.Perm.cons x ur)
structure I3 {α:Type} (c:α->α->Option Int) (s:List α):Prop where
 some:∀x∈s,∀y∈s,(c x y).isSome=true
 PF:∀x∈s,ltOf (df c) x x=false
 KM:∀x∈s,∀y∈s,ltOf (df c) x y=false->ltOf (df c) y x=false->x=y
 tr:∀x∈s,∀y∈s,∀z∈s,ltOf (df c) x y=true->ltOf (df c) y z=true->ltOf (df c) x z=true
def KQ{α:Type}[DecidableEq α]{c:α->α->Y Int}:∀{l:Z α},Lu c l=true->I3 c l
 |[],_=>⟨λ_ h=>(by cases h),λ_ h=>(by cases h),λ_ h=>(by cases h),λ_ h=>(by cases h)⟩
 |x::l,h=>by
  simp only[Lu,Qa,Qe,QR]at h;obtain⟨⟨⟨h1,A⟩,r⟩,z⟩:=h;have p:=KQ z
  have G:∀y∈l,(ltOf (df c) x y=true/\ltOf (df c) y x=false)\/x=y:=λy u=>by
   have:=(r y u).2
   cases t:ltOf (df c) x y with
   |true=>rw[t]at this;exact .inl ⟨rfl,by simpa using this⟩
   |false=>rw[t]at this;exact .inr (by simpa using this)
  refine⟨λa n b o=> ?_,λa n=> ?_,λa n b o=> ?_,λa n b o d w=> ?_⟩
  .rcases Qk.1 n with e|j
   .rcases Qk.1 o with q|m
    .rw[e,q];exact h1
    .rw[e];exact(r b m).1.1
   .rcases Qk.1 o with q|m
    .rw[q];exact(r a j).1.2
    .exact p.some a j b m
  .rcases Qk.1 n with e|j
   .rw[e];exact A
   .exact p.PF a j
  .have:=p.KM a;rcases Qk.1 n with e|j<;>rcases Qk.1 o with q|m<;>grind
  .have E:=p.tr a;have D:=p.PF;rcases Qk.1 n with e|j<;>rcases Qk.1 o with q|m<;>rcases Qk.1 w with B|v<;>grind
section
variable{α:Type}{c:α->α->Y Int}{s:Z α}(h:I3 c s)
 include h
theorem HY{x y:α}(b:x∈s)(a:y∈s):c x y=some (df c x y):=by obtain⟨n,d⟩:=Option.isSome_iff_exists.1 (h.some x b y a);rw[df,d];rfl
theorem AF:Go.Sort.SWO (α:={x // x∈s}) λx y=>ltOf (df c) x.1 y.1:=by
 refine⟨λx=>h.PF x.1 x.2,λx y z b a=>h.tr _ x.2 _ y.2 _ z.2 b a,λx y z b a=> ?_⟩
 cases j:ltOf (df c) x.1 z.1 with
 |false=>rfl
 |true=>
  have m:=h.tr _ y.2 _ x.2 _ z.2;have l:=h.KM _ x.2 _ y.2 b
  cases d:ltOf (df c) y.1 x.1 with
  |true=>rw[m d j]at a;cases a
  |false=>rw[<-l d,j]at a;cases a
theorem EH{x y:α}(b:x∈s)(a:y∈s)(j:ltOf (df c) x y=false)(d:ltOf (df c) y x=false):x=y:=h.KM x b y a j d
theorem HZ{x:α}(o:x∈s):∀{l:Z α},(∀y∈l,y∈s)->l.Pairwise (λa b=>(!ltOf (df c) b a)=true)->(HD (ltOf (df c)) x l).Pairwise λa b=>(!ltOf (df c) b a)=true
 |[],_,_=>List.pairwise_singleton _ _
 |y::l,q,hp=>by
  have p:=AF h;have m:=q y Qy;rw[qad]at hp;rw[HD]
  cases j:ltOf (df c) y x with
  |true=>
   refine qad.2 ⟨λz d=> ?_,HZ o (λz d=>q z (QC _ d)) hp.2⟩
   rcases Qk.1 (CL.mem_iff.1 d)with rfl|d
   .cases n:ltOf (df c) z y with
    |false=>rfl
    |true=>have:=p.trans ⟨y,m⟩ ⟨z,o⟩ ⟨y,m⟩ j n;rw[p.irrefl ⟨y,m⟩]at this;cases this
   .exact hp.1 z d
  |false=>
   refine qad.2 ⟨λz d=> ?_,qad.2 hp⟩
   rcases Qk.1 d with rfl|d
   .rw[j];rfl
   .have r:=hp.1 z d;have:=p.ntrans ⟨z,q z (QC _ d)⟩ ⟨y,m⟩ ⟨x,o⟩ (by simpa using r) j
    rw[show ltOf (df c) z x=false from this];rfl
theorem HX:∀{l:Z α},(∀y∈l,y∈s)->(EG (ltOf (df c)) l).Pairwise λa b=>(!ltOf (df c) b a)=true
 |[],_=> .nil
 |x::l,j=>HZ h (j x Qy) (λy d=>j y (QC _ (ur.mem_iff.1 d))) (HX λy d=>j y (QC _ d))
theorem FJ:(s.attach.mergeSort λx y=> !ltOf (df c) y.1 x.1).map Subtype.val=EG (ltOf (df c)) s:=by
 have m:=AF h;refine List.Perm.eq_of_pairwise (le:=λa b=>(!ltOf (df c) b a)=true) (λa b o n l j=> ?_) ?_ (HX h λ_ h=>h) ?_
 .obtain⟨a',_,rfl⟩:=Qs.1 o;exact EH h a'.2 (ur.mem_iff.1 n) (by simpa using j) (by simpa using l)
 .refine List.pairwise_map.2 (List.pairwise_mergeSort (le:=λx y:{x // x∈s}=> !ltOf (df c) y.1 x.1) (λa b d l j=> ?_) (λa b=> ?_) _)
  .have:=m.ntrans d b a (by simpa using j) (by simpa using l)
   rw[show ltOf (df c) d.1 a.1=false from this];rfl
  .cases l:ltOf (df c) b.1 a.1 with
   |false=>rfl
   |true=>cases j:ltOf (df c) a.1 b.1 with
    |false=>rfl
    |true=>have:=m.trans a b a j l;rw[m.irrefl a]at this;cases this
 .have:=(List.mergeSort_perm s.attach λx y=> !ltOf (df c) y.1 x.1).map Subtype.val
  rw[List.attach_map_subtype_val]at this;exact this.trans ur.symm
end
def KR{α:Type}[DecidableEq α]{c:α->α->Y Int}{s:Z α}(h:Lv c s=true):I3 c s:=
 have k:=KQ h;have m:∀{x:α},x∈s->x∈EG (ltOf (df c)) s:=λa=>ur.mem_iff.2 a
 ⟨λx a y b=>k.some x (m a) y (m b),λx a=>k.PF x (m a),λx a y b=>k.KM x (m a) y (m b),λx a y b z d=>k.tr x (m a) y (m b) z (m d)⟩
def P4.on{α:Type}{c:α->α->Y Int}(h:P4 c)(s:Z α):I3 c s:=
 ⟨λx _ y _=>by rw[h.some x y];rfl,λx _=>h.ord.irrefl x,λx _ y _=>h.KM x y,λx _ y _ z _=>h.ord.trans x y z⟩
section
variable{P:Pr}{f g e k:Nat}{T:Ty}{inst:DecidableEq T.den}{F:T.den×T.den×Unit->Y Int}(hent:Enters P f)(h0:Dc P f)(hgs:bS.Sound P (U:=U) (.fn g [.ty T,.ty T] (.one (Ty.i .i64)) F))(hp:∀x:T.den,(T.pv x).all rQ=true)
 include hent h0 hgs hp
theorem UI(hS:Kp P f k)(l:0<k)(q:∀x:T.den,(T.pv x).length=k)(p:∀x:T.den,cY (U:=U) T x= .agg (T.pv x)):
  bS.Sound P (U:=U) (.rw f e k T [.aQ g []] (.many []) λs a=>yY (λx y=>F (x,y,())) s):=by
 refine⟨hent,λxs a r t h=> ?_⟩
 have h:yY (λx y=>F (x,y,())) xs=some (r,t):=h
 unfold yY at h
 cases b:Lv (λx y=>F (x,y,())) xs&&decide (xs.length<4611686018427387904)with
 |false=>rw[b]at h;cases h
 |true=>
  rw[b,qap]at h;rw[Qa,QB]at b;have b:=And.intro (KR b.1) b.2;injection h with h
  injection h with _ d
  subst d
  have j:=KP (P:=P) (α:={x // x∈xs}) (pv:=λx=>T.pv x.1) (f:=f) (g:=g) (e:=e) (le:=λx y=> !ltOf (df λx y=>F (x,y,())) y.1 x.1) xs.attach h0 (λo=>by
   have hi:Inhabited {x // x∈xs}:=by
    cases u:xs.attach with
    |nil=>exact absurd u o
    |cons x _=>exact⟨x⟩
   refine W0 (cf:=λx y:{x // x∈xs}=>df (λx y=>F (x,y,())) x.1 y.1) hS l (λx=>q x.1) (λx=>hp x.1) (AF b.1) (λx y n d=>Subtype.ext (EH b.1 x.2 y.2 n d)) (λm w=>gr hgs.1 m) ?_
   refine Lj (va:=λx=> .agg (T.pv x.1)) (λx w M=> .agg _ _ (by rw[km,Qw]) λi y v n d=> ?_) λx y=> ?_
   .rw[km,Qt,n]at d;injection d with d
    rw[<-d];exact Cn (Qe.1 (hp x.1) y (QG n))
   .have:=hgs.2 (x.1,y.1,()) _ (HY b.1 x.2 y.2);rw[show er (U:=U) [.ty T,.ty T] (x.1,y.1,())=[.agg (T.pv x.1),.agg (T.pv y.1)]by rw[<-p x.1,<-p y.1];rfl]at this
    exact this) l (λx=>q x.1) (λx=>hp x.1) (by rw[List.length_attach];exact b.2)
  rw[List.attach_map_val]at j;rw[show((xs.attach.mergeSort λx y=> !ltOf (df λx y=>F (x,y,())) y.1 x.1).map λx=>T.pv x.1)=((xs.attach.mergeSort λx y=> !ltOf (df λx y=>F (x,y,())) y.1 x.1).map Subtype.val).map (λx=>T.pv x)by rw[List.map_map];rfl,FJ b.1]at j
  exact j
theorem Lt(hS:G8 P f)(p:∀x:T.den,T.pv x=[cY (U:=U) T x]):
  bS.Sound P (U:=U) (.rw f e 1 T [.aQ g []] (.many []) λs a=>yY (λx y=>F (x,y,())) s):=by
 refine⟨hent,λxs a r q h=> ?_⟩
 have h:yY (λx y=>F (x,y,())) xs=some (r,q):=h
 unfold yY at h
 cases b:Lv (λx y=>F (x,y,())) xs&&decide (xs.length<4611686018427387904)with
 |false=>rw[b]at h;cases h
 |true=>
  rw[b,qap]at h;rw[Qa,QB]at b;have b:=And.intro (KR b.1) b.2;injection h with h
  injection h with _ o
  subst o;have j:∀x:T.den,rQ (cY (U:=U) T x)=true:=λx=>by have:=hp x;rw[p x]at this;simpa using this
  have d:=KP (P:=P) (α:={x // x∈xs}) (pv:=λx=>[cY (U:=U) T x.1]) (k:=1) (f:=f) (g:=g) (e:=e) (le:=λx y=> !ltOf (df λx y=>F (x,y,())) y.1 x.1) xs.attach h0 (λn=>by
   have hi:Inhabited {x // x∈xs}:=by
    cases t:xs.attach with
    |nil=>exact absurd t n
    |cons x _=>exact⟨x⟩
   exact W8 (p1:=λx:{x // x∈xs}=>cY (U:=U) T x.1) (cf:=λx y:{x // x∈xs}=>df (λx y=>F (x,y,())) x.1 y.1) hS (λx=>j x.1) (AF b.1) (λx y u o=>Subtype.ext (EH b.1 x.2 y.2 u o)) (λl w=>gr hgs.1 l) (Lj (va:=λx=>cY (U:=U) T x.1) (λx w M=>Cn (j x.1)) λx y=>(show ED P g false [] [cY (U:=U) T x.1,cY (U:=U) T y.1] (.int .i64 _) []from hgs.2 (x.1,y.1,()) _ (HY b.1 x.2 y.2)))) (Nat.zero_lt_one) (λx=>rfl) (λx=>by simpa using j x.1) (by rw[List.length_attach];exact b.2)
  have m:(λx:T.den=>T.pv x)=λx=>[cY (U:=U) T x]:=funext p
  rw[List.attach_map_val (f:=λx=>[cY (U:=U) T x])]at d
  rw[show((xs.attach.mergeSort λx y=> !ltOf (df λx y=>F (x,y,())) y.1 x.1).map λx=>[cY (U:=U) T x.1])=((xs.attach.mergeSort λx y=> !ltOf (df λx y=>F (x,y,())) y.1 x.1).map Subtype.val).map (λx=>[cY (U:=U) T x])by rw[List.map_map];rfl,FJ b.1,<-m]at d
  exact d
end
end Go.TQ
end
noncomputable section
namespace Go.Proofs
open Go.Shelf
def Tl{P:Pr}{f:FI}{fn:Func}(h:(((P.funcs[f]?).map Func.name).getD ""== "runtime.NumGoroutine")=false)(a:P.funcs[f]?=some {fn with name:=((P.funcs[f]?).map Func.name).getD ""}):Bears P f fn:=⟨_,h,a⟩
def Ar:Go.Shelf.Ren:=⟨λ|6=>472|15=>503|14=>502|28=>540|29=>541|20=>532|21=>533|22=>534|23=>535|24=>536|25=>537|26=>538|27=>539|46=>560|47=>561|48=>562|49=>563|50=>564|57=>575|n=>n,λ|22=>50|24=>9|25=>285|3=>3|39=>26|0=>0|53=>388|55=>409|4=>4|46=>418|45=>417|50=>165|5=>5|9=>9|66=>434|70=>438|76=>445|77=>319|n=>n,λ|n=>n⟩
set_option maxRecDepth 100000 in
def G7:Go.Proofs.SlLaysF.n6 Tryz.prog Ar:=by
 constructor
 all_goals first
  |kernel_rfl
  |exact λ_=>d_
  |exact Tl d_ d_
def HT:Go.Shelf.Ren:=⟨λ|6=>565|15=>503|14=>576|28=>540|29=>541|20=>578|21=>579|22=>580|23=>581|24=>582|25=>583|26=>584|27=>585|46=>594|47=>561|48=>562|49=>595|50=>596|57=>600|n=>n,λ|22=>297|24=>46|25=>330|3=>3|39=>26|0=>0|53=>388|55=>409|4=>4|46=>418|45=>417|50=>165|5=>5|9=>9|66=>434|70=>438|76=>445|77=>319|n=>n,λ|n=>n⟩
set_option maxRecDepth 100000 in
def G6:Go.Proofs.SlLaysF0.n6 Tryz.prog HT:=by
 constructor
 all_goals first
  |kernel_rfl
  |exact λ_=>d_
  |exact Tl d_ d_
def Aq:Go.Shelf.Ren:=⟨λ|6=>569|15=>503|14=>577|28=>540|29=>541|20=>586|21=>587|22=>588|23=>589|24=>590|25=>591|26=>592|27=>593|46=>597|47=>561|48=>562|49=>598|50=>599|57=>601|n=>n,λ|22=>22|24=>3|25=>25|3=>3|39=>26|0=>0|53=>388|55=>409|4=>4|46=>418|45=>417|50=>165|5=>5|9=>9|66=>434|70=>438|76=>445|77=>319|n=>n,λ|n=>n⟩
set_option maxRecDepth 100000 in
def G5:Go.Proofs.SlLaysF.n6 Tryz.prog Aq:=by
 constructor
 all_goals first
  |kernel_rfl
  |exact λ_=>d_
  |exact Tl d_ d_
end Go.Proofs
namespace Go.Proofs.YtppbofaglpdghaaGreat
open Go.TQ Go.Proofs
namespace xc
def enters:Go.TQ.Enters Tryz.prog 472:=⟨_,Tryz.func472,d_,d_⟩
def none:Dc Tryz.prog 472:=λp cap a w=>AnyF.slices_SortFunc_none (P:=Tryz.prog) (ρ:=Ar) {G7 with} p cap a w
def Dp:G8 Tryz.prog 472:=λα _ dI h1 cf hO g o br a cap d w n j hH l b m=>Any.slices_SortFunc_total G7 dI h1 cf hO g o br a cap d w n j hH l b m
end xc
namespace FL
def enters:Go.TQ.Enters Tryz.prog 565:=⟨_,Tryz.func565,d_,d_⟩
def none:Dc Tryz.prog 565:=λp cap a w=>AnyF.slices_SortFunc_none G6 p cap a w
def Dp:Kp Tryz.prog 565 2:=λα _ dI hk h1 cf hO g n br off cap d w m b hH j a l=>AnyQ.slices_SortFunc_total G6 2 Tryz.isAgg46 Tryz.sizeOf46 dI hk h1 cf hO g n br off cap d w m b hH j a l
end FL
namespace FK
def enters:Go.TQ.Enters Tryz.prog 569:=⟨_,Tryz.func569,d_,d_⟩
def none:Dc Tryz.prog 569:=λp cap a w=>AnyF.slices_SortFunc_none (P:=Tryz.prog) (ρ:=Aq) {G5 with} p cap a w
def Dp:G8 Tryz.prog 569:=λα _ dI h1 cf hO g o br a cap d w n j hH l b m=>Any.slices_SortFunc_total G5 dI h1 cf hO g o br a cap d w n j hH l b m
end FK
end Go.Proofs.YtppbofaglpdghaaGreat
namespace Go.Proofs.YtppbofaglpdghaaGreat
open Go.TQ Go.Proofs.Tryz
section
@[reducible] def u1 {b B:Type} (F:b->B) (a:b×Unit):B:=F a.1
@[reducible] def u2 {d b B:Type} (F:d->b->B) (a:d×b×Unit):B:=F a.1 a.2.1
@[reducible] def u3 {j d b B:Type} (F:j->d->b->B) (a:j×d×b×Unit):B:=F a.1 a.2.1 a.2.2.1
@[reducible] def u4 {l j d b B:Type} (F:l->j->d->b->B) (a:l×j×d×b×Unit):B:=F a.1 a.2.1 a.2.2.1 a.2.2.2.1
@[reducible] def u5 {m l j d b B:Type} (F:m->l->j->d->b->B) (a:m×l×j×d×b×Unit):B:=F a.1 a.2.1 a.2.2.1 a.2.2.2.1 a.2.2.2.2.1
@[reducible] def u6 {n m l j d b B:Type} (F:n->m->l->j->d->b->B) (a:n×m×l×j×d×b×Unit):B:=F a.1 a.2.1 a.2.2.1 a.2.2.2.1 a.2.2.2.2.1 a.2.2.2.2.2.1
@[reducible] def oO (b:Bool) (x:Y Bool):Y Bool:=bif b then some true else x
@[reducible] def aO (b:Bool) (x:Y Bool):Y Bool:=bif b then x else some false
@[reducible] def zB:aj:=aj.mk 0 (ByteArray.mk #[])
@[reducible] def bE:C:=ByteArray.mk #[]
@[reducible] def zz0:ar:=ar.mk 0 [] []
@[reducible] def zz1:aW:=aW.mk 0 0 0 zz0 0 zB zB zB zB 0 0 bE []
@[reducible] def zz2:aD:=aD.mk 0 0 0 0 zz0 bE [] [] [] []
@[reducible] def zz3:ay:=ay.mk 0 false zz0 []
@[reducible] def zz4:bI:=bI.mk [] 0 [] []
@[reducible] def zz5:aI:=aI.mk 0 [] 0 zz4 []
@[reducible] def zz6:ao:=ao.mk 0 0 0 zz0 0 zB zB zB 0 0
@[reducible] def zz7:aA:=aA.mk 0 0 zz0 [] []
@[reducible] def zz8:aN:=aN.mk 0 0 zz7 zz6
@[reducible] def zz9:bq:=bq.mk []
@[reducible] def zz10:gB:=gB.mk 0 0
@[reducible] def zz11:ba:=ba.mk zz2 zz1 zz10 0 0 false bE
@[reducible] def zz12:eF:=eF.mk 2 0 0 0 12 bE zz0 zz8 []
@[reducible] def zz13:bW:=bW.mk false zz0
def p_:Nat->Nat->NT U->NT U|0,_,x=>x|k+1,n,x=>match n % 2 with|0=> .l (p_ k (n / 2) x)|_=> .r (p_ k (n / 2) x)
@[reducible] def oR {A B:Type} (x:Y B):Y (A⊕B):=Option.map inr x
@[reducible] def y0:Ty:=Ty.i .i64
@[reducible] def y1:Ty:=Ty.bool
@[reducible] def y2:Ty:=Ty.str
@[reducible] def y3:Ty:=Ty.st .aG
@[reducible] def y4:Ty:=Ty.st .ae
@[reducible] def y5:Ty:=Ty.st .bt
@[reducible] def y6:Ty:=Ty.st .dF
@[reducible] def y7:Ty:=Ty.st .ah
@[reducible] def y8:Ty:=Ty.st .aP
@[reducible] def y9:Ty:=Ty.st .aa
@[reducible] def y10:Ty:=Ty.st .qd
@[reducible] def y11:Ty:=Ty.sl (Ty.i .i64)
@[reducible] def y12:Ty:=Ty.st .Config
@[reducible] def y13:Ty:=Ty.sl Ty.str
@[reducible] def y14:Ty:=Ty.sl (Ty.st .ae)
@[reducible] def y15:Ty:=Ty.st .il
@[reducible] def y16:Ty:=Ty.st .ai
@[reducible] def y17:Ty:=Ty.sl (Ty.st .ah)
@[reducible] def y18:Ty:=Ty.st .Seen
@[reducible] def y19:Ty:=Ty.st .o0
@[reducible] def y20:Ty:=Ty.st .World
@[reducible] def y21:Ty:=Ty.st .im
@[reducible] def y22:Ty:=Ty.st .ak
@[reducible] def y23:Ty:=Ty.st .Step
@[reducible] def y24:Ty:=Ty.st .pQ
@[reducible] def y25:Ty:=Ty.st .na
@[reducible] def y26:Ty:=Ty.sl (Ty.st .il)
@[reducible] def y27:Ty:=Ty.sl (Ty.st .ai)
@[reducible] def y28:Ty:=Ty.st .Src
@[reducible] def y29:Ty:=Ty.st .Outcome
@[reducible] def y31:Ty:=Ty.sl (Ty.st .bt)
@[reducible] def y36:Ty:=Ty.sl (Ty.st .aG)
@[reducible] def t11:cm U:= .ty y11
@[reducible] def t0:cm U:= .ty y0
@[reducible] def t4:cm U:= .ty y4
@[reducible] def t12:cm U:= .ty y12
@[reducible] def t13:cm U:= .ty y13
@[reducible] def t3:cm U:= .ty y3
@[reducible] def t2:cm U:= .ty y2
@[reducible] def t7:cm U:= .ty y7
@[reducible] def t9:cm U:= .ty y9
@[reducible] def t8:cm U:= .ty y8
@[reducible] def t14:cm U:= .ty y14
@[reducible] def t5:cm U:= .ty y5
@[reducible] def t6:cm U:= .ty y6
@[reducible] def t17:cm U:= .ty y17
@[reducible] def t19:cm U:= .ty y19
@[reducible] def t18:cm U:= .ty y18
@[reducible] def q0:jt U:= .one y0
@[reducible] def q1:jt U:= .one y1
noncomputable def kf{f:FI}{fn:Func}(o:prog.funcs[f]?=some fn)(l:Z (cm U))(r:jt U)(F:cI l->Y r.den)(d:Z Nat)(n:NT U)(G:Z (KS U prog))(a:(fn.body.bind (ax prog fn.ntmps d))=some (bc (aT prog fn.ntmps d fn) n).erase:=by kernel_rfl)(b:gN prog fn.results.toList=some ((gN prog fn.results.toList).getD []):=by kernel_rfl)(c:(fn.name== "runtime.NumGoroutine")=false:=by kernel_rfl)(m:(bc (aT prog fn.ntmps d fn) n).bJ=true:=by kernel_rfl)(j:Nat.ble l.length fn.ntmps=true:=by kernel_rfl)(hF:JW K (KS.ks G) (bc (aT prog fn.ntmps d fn) n) ((gN prog fn.results.toList).getD []) l r=F:=by kernel_rfl):KS U prog:=⟨.fn f l r F,NA (K:=K) _ _ _ G ⟨fn,d,o,rfl,a,b,c⟩ m (Qm j) hF⟩
noncomputable def kr{f:FI}{fn:Func}(o:prog.funcs[f]?=some fn)(pos:Nat)(R:Ty)(l:Z (cm U))(r:jt U)(F:U.den R->cI l->Y (r.den×U.den R))(d:Z Nat)(n:NT U)(G:Z (KS U prog))(a:(fn.body.bind (ax prog fn.ntmps d))=some (bc (aT prog fn.ntmps d fn) n).erase:=by kernel_rfl)(b:gN prog fn.results.toList=some ((gN prog fn.results.toList).getD []):=by kernel_rfl)(c:(fn.name== "runtime.NumGoroutine")=false:=by kernel_rfl)(m:(bc (aT prog fn.ntmps d fn) n).bJ=true:=by kernel_rfl)(j:Nat.ble (1+l.length) fn.ntmps=true:=by kernel_rfl)(hF:Sj K (KS.ks G) (bc (aT prog fn.ntmps d fn) n) ((gN prog fn.results.toList).getD []) pos R l r=F:=by kernel_rfl):KS U prog:=⟨.rc f pos R l r F,Xr (K:=K) _ _ _ G ⟨fn,d,o,rfl,a,b,c⟩ m (Qm j) hF⟩
def eT0(x:aD):aD:={x with ae:=(af x.ae)}
def aD.e(x:aD):eT0 x=x:=by unfold eT0;simp only[ar.eta,aD.eta]
def eT1(x:ao):ao:={x with ae:=(af x.ae)}
def ao.e(x:ao):eT1 x=x:=by unfold eT1;simp only[ar.eta,aD.e,ao.eta]
def eT2(x:aW):aW:={x with ae:=(af x.ae)}
def aW.e(x:aW):eT2 x=x:=by unfold eT2;simp only[ar.eta,aD.e,ao.e,aW.eta]
def eT3(x:ay):ay:={x with ae:=(af x.ae)}
def ay.e(x:ay):eT3 x=x:=by unfold eT3;simp only[ar.eta,aD.e,ao.e,aW.e,ay.eta]
def eT4(x:bW):bW:={x with ae:=(af x.ae)}
def bW.e(x:bW):eT4 x=x:=by unfold eT4;simp only[ar.eta,aD.e,ao.e,aW.e,ay.e,bW.eta]
def eT5(x:ba):ba:={x with aP:=(eT0 x.aP),aa:=(eT2 x.aa)}
def ba.e(x:ba):eT5 x=x:=by unfold eT5;simp only[ar.eta,aD.e,ao.e,aW.e,ay.e,bW.e,ba.eta]
def etas:(∀x:ar,ar.mk x.aV x.aY x.bC=x)/\(∀x,eT0 x=x)/\(∀x,eT1 x=x)/\(∀x,eT2 x=x)/\(∀x,eT3 x=x)/\(∀x,eT4 x=x)/\(∀x,eT5 x=x):=⟨ar.eta,aD.e,ao.e,aW.e,ay.e,bW.e,ba.e⟩
attribute [simp] etas
noncomputable def Kx:SA U:=bc (aT prog 10 [] f9) .e
noncomputable def wR(a:Z Int):Y jH:=bif eR 0 (rY (a.length:Int) 800) (a.length)then some (jH.mk ((a.take (toNat (rY (a.length:Int) 800))).drop (toNat 0)) 0)else none
noncomputable def Mr:KS U prog:=⟨.nw 9 [t11] y28 λa=>wR a.1,Xt (K:=K) Kx 10 2 [] (fk f9 [] func9)⟩
noncomputable def oB(s:jH)(a:Int):Y (Int×jH):=aX (λ(c:Bool×Unit)=>bif c.1 then some (0,s)else(idx s.L (iH .i64 (aC .i64 s.At 1) 1)).bind λd=>if a=0 then none else if a=0 then none else some ((LD .i64 (aC .i64 (LD .i64 d a) a) a),(jH.mk s.L (aC .i64 s.At 1)))) λb=>bif decide ((s.L.length:Int)<=s.At)then b (true,())else b ((decide (a<1)),())
def Cz:=kr func11 0 y28 [t0] q0 (λs a=>oB s a.1) [] (p_ 2 1 (.j ⟨[.val 18 y1],[0,1]⟩ .e)) []
def mO(s:jH)(a:Int)(c:Int):Y (Int×jH):=(oB s (aC .i64 (iH .i64 c a) 1)).bind λb=>some ((aC .i64 a b.1),b.2)
def E2:=kr func10 0 y28 [t0,t0] q0 (λs a=>mO s a.1 a.2.1) [] .e [Cz]
noncomputable def zH(b:Int)(c:Int):Y ar:=aE (λ(a:Int×ar×Z Int×Unit)=>bif decide (a.1<b)then bif bp 8 (a.2.2.1.length+List.length [a.1])then some (inl ((aC .i64 a.1 1),(ar.mk a.2.1.aV [] a.2.1.bC),(a.2.2.1++[a.1]),()))else none else oR (some (ar.mk a.2.1.aV a.2.2.1 a.2.1.bC))) (0,(ar.mk c [] []),[],())
def Ew:=kf func17 [t0,t0] (.one y4) (u2 zH) [] (p_ 5 11 (.ps (.rS 5 1 3 1 y0) (.j ⟨[.val 6 y0,.box 3 1 y4 [(1,6,2)],.bQ 6 2 false 3 1 y0],[0,4,5]⟩ .e))) []
noncomputable def rn(a:ar):Y Bool:=(aO (decide (a.aV=0)) (some (decide ((a.aY.length:Int)=0)))).bind λb=>(aO b (some (decide ((a.bC.length:Int)=0)))).bind some
def Ae:=kf func155 [t4] q1 (u1 rn) [] .e []
noncomputable def Ce:SA U:=bc (aT prog 20 [] f157) (.r (.r (.l (.r (.l (.j ⟨[.val 3 y0,.val 9 y0],[7,8]⟩ .e))))))
noncomputable def wo(rec:(ar×Unit)->Y Int)(b:ar):Y Int:=aE (λ(a:Int×Int×Unit)=>bif decide (a.2.1<(b.bC.length:Int))then(idx b.bC a.2.1).bind λc=>(rec ((af c),())).bind λd=>some (inl ((Cq a.1 d),(aC .i64 a.2.1 1),()))else oR (some (aC .i64 a.1 1))) (0,0,())
noncomputable def Eg:Nat->(ar×Unit)->Y Int:=gO (λrec a=>wo rec a.1)
def vN(a:ar):Y Int:=Eg (SizeOf.sizeOf a+1) (a,())
noncomputable def DQ:KS U prog:=⟨.fn 157 [t4] q0 λa=>vN a.1,Bk (K:=K) (A_s:=[t4]) (r:= .one y0) (B:=λrec a=>wo rec a.1) Ce 20 [.tmp 2] [] (fk f157 [] func157) (hF:=λa=>⟨_,rfl⟩)⟩
noncomputable def DJ:SA U:=bc (aT prog 26 [] f158) (.r (.r (.l (.r (.l (.j ⟨[.val 3 y0,.val 16 y0],[14,15]⟩ .e))))))
noncomputable def yd(rec:(ar×Unit)->Y Int)(b:ar):Y Int:=aE (λ(a:Int×Int×Unit)=>bif decide (a.2.1<(b.bC.length:Int))then(idx b.bC a.2.1).bind λc=>(rec ((af c),())).bind λd=>some (inl ((aC .i64 a.1 d),(aC .i64 a.2.1 1),()))else oR (some a.1)) ((aC .i64 (b.aY.length:Int) (b.bC.length:Int)),0,())
noncomputable def Fz:Nat->(ar×Unit)->Y Int:=gO (λrec a=>yd rec a.1)
def xN(a:ar):Y Int:=Fz (SizeOf.sizeOf a+1) (a,())
noncomputable def EW:KS U prog:=⟨.fn 158 [t4] q0 λa=>xN a.1,Bk (K:=K) (A_s:=[t4]) (r:= .one y0) (B:=λrec a=>yd rec a.1) DJ 26 [.tmp 2] [] (fk f158 [] func158) (hF:=λa=>⟨_,rfl⟩)⟩
noncomputable def qF(a:Int):Y Bool:=(aO (decide (0<=a)) (some (decide (a<10)))).bind some
def xt:=kf func228 [t0] q1 (u1 qF) [] .e []
def ta(a:Int):Y Bool:=(qF a).bind λb=>some (!b)
def BS:=kf func229 [t0] q1 (u1 ta) [] .e [xt]
def j0(b:Z Int):Y Int:=aE (λ(a:Int×Unit)=>bif decide (a.1<(b.length:Int))then(idx b a.1).bind λc=>(ta c).bind λd=>bif d then oR (some a.1)else some (inl ((aC .i64 a.1 1),()))else oR (some (-1:Int))) (0,())
def rF:=kf func245 [t11,.aQ 229 []] q0 (λa=>j0 a.1) [] (p_ 4 5 (.j ⟨[.val 8 y0],[0,1,7]⟩ .e)) [BS]
def iR(a:Z Int):Y Bool:=(j0 a).bind λb=>some (decide (0<=b))
def pj:=kf func183 [t11,.aQ 229 []] q1 (λa=>iR a.1) [] .e [rF]
noncomputable def yM(a:Int)(b:Int):Y Bool:=(aO (decide (0<=a)) (if b<0 then none else some (decide (a<(dJ .i64 1 b))))).bind some
def Gk:=kf func244 [t0,t0] q1 (u2 yM) [] .e []
def fA(a:Int):Y Bool:=(yM a 10).bind some
def iB:=kf func181 [t0] q1 (u1 fA) [] .e [Gk]
def eD(b:Int)(a:Int):Y Bool:=(fA b).bind λc=>(aO c (some (decide (0<=a)))).bind λd=>(aO d (some (decide (a<10)))).bind λe=>(aO e (if a<0 then none else some (!decide ((MO .i64 b (dJ .i64 1 a))=0)))).bind some
def fO:=kf func268 [t0,t0] q1 (u2 eD) [] .e [iB]
def Dh(c:Z Int):Y (Int×Int×Unit):=aE (λ(a:Int×Int×Unit)=>bif decide (a.2.1<(c.length:Int))then(idx c a.2.1).bind λb=>(oO (decide (b<0)) (some (decide (10<=b)))).bind λd=>bif d then oR (some (0,5,()))else(eD a.1 b).bind λe=>bif e then oR (some (0,6,()))else if b<0 then none else some (inl ((vB .i64 a.1 (dJ .i64 1 b)),(aC .i64 a.2.1 1),()))else oR (some (a.1,0,()))) (0,0,())
def JA:=kf func230 [t11] (.many [y0,y0]) (u1 Dh) [] (p_ 5 11 (.j ⟨[.val 4 y0,.val 9 y0],[7,8]⟩ .e)) [fO]
noncomputable def Cd:SA U:=bc (aT prog 48 [] f159) (.r (.r (.r (.r (.l (.r (.l (.j ⟨[.val 38 y0],[36,37]⟩ .e))))))))
def wj(rec:(ar×Unit)->Y Int)(a:ar):Y Int:=(oO (decide (a.aV<1)) (some (decide ((aC .i64 (a.aY.length:Int) (a.bC.length:Int))<a.aV)))).bind λe=>bif e then some 4 else(iR a.aY).bind λf=>bif f then some 5 else(Dh a.aY).bind λc=>bif (!decide (c.2.1=0))then some c.2.1 else aE (λ(b:Int×Unit)=>bif decide (b.1<(a.bC.length:Int))then(idx a.bC b.1).bind λg=>(rec ((af g),())).bind λd=>bif (!decide (d=0))then oR (some d)else some (inl ((aC .i64 b.1 1),()))else oR (some 0)) (0,())
noncomputable def Ef:Nat->(ar×Unit)->Y Int:=gO (λrec a=>wj rec a.1)
def vM(a:ar):Y Int:=Ef (SizeOf.sizeOf a+1) (a,())
noncomputable def DP:KS U prog:=⟨.fn 159 [t4] q0 λa=>vM a.1,Bk (K:=K) (A_s:=[t4]) (r:= .one y0) (B:=λrec a=>wj rec a.1) Cd 48 [.tmp 2] [pj,JA] (fk f159 [] func159) (hF:=λa=>⟨_,rfl⟩)⟩
def bF(a:ar):Y Int:=(vN (af a)).bind λb=>(oO (decide (4<b)) ((xN (af a)).bind λc=>some (decide (200<c)))).bind λd=>bif d then some 3 else(vM (af a)).bind some
def bM:=kf func93 [t4] q0 (u1 bF) [] .e [DQ,EW,DP]
noncomputable def DI:SA U:=bc (aT prog 35 [] f156) (.r (.r (.b (.r (.l (.j ⟨[.val 3 y0,.val 11 y0],[1,9,10]⟩ (.l (.r (.r (.j ⟨[.val 3 y0],[1,9,10,11]⟩ .e))))))) (.l (.r (.l (.j ⟨[.val 3 y0,.val 25 y0],[23,24]⟩ .e)))))))
def yc(rec:(ar×Unit)->Y Int)(c:ar):Y Int:=aE (λ(a:Int×Int×Unit)=>bif decide (a.2.1<(c.aY.length:Int))then aX (λ(f:Int×Unit)=>some (inl (f.1,(aC .i64 a.2.1 1),()))) λe=>(idx c.aY a.2.1).bind λd=>(qF d).bind λg=>bif g then if d<0 then none else e ((vB .i64 a.1 (dJ .i64 1 d)),())else e (a.1,())else oR (aE (λ(b:Int×Int×Unit)=>bif decide (b.2.1<(c.bC.length:Int))then(idx c.bC b.2.1).bind λh=>(rec ((af h),())).bind λi=>some (inl ((vB .i64 b.1 i),(aC .i64 b.2.1 1),()))else oR (some b.1)) (a.1,0,()))) (0,0,())
noncomputable def Fy:Nat->(ar×Unit)->Y Int:=gO (λrec a=>yc rec a.1)
def qG(a:ar):Y Int:=Fy (SizeOf.sizeOf a+1) (a,())
noncomputable def xu:KS U prog:=⟨.fn 156 [t4] q0 λa=>qG a.1,Bk (K:=K) (A_s:=[t4]) (r:= .one y0) (B:=λrec a=>yc rec a.1) DI 35 [.tmp 2] [xt] (fk f156 [] func156) (hF:=λa=>⟨_,rfl⟩)⟩
def p6(a:bW)(b:Int):Y Int:=bif (!a.qM)then(rn (af a.ae)).bind λd=>bif (!d)then some 1 else some 0 else(bF (af a.ae)).bind λc=>bif (!decide (c=0))then some c else(qG (af a.ae)).bind λe=>if b<0 then none else bif decide ((dJ .i64 1 b)<=e)then some 5 else some 0
def zu:=kf func90 [.ty y21,t0] q0 (u2 p6) [] .e [Ae,bM,xu]
def rp(a:bq):Y Int:=bif decide (10<(a.dY.length:Int))then some 3 else aE (λ(b:Int×Unit)=>bif decide (b.1<(a.dY.length:Int))then(idx a.dY b.1).bind λd=>(p6 (eT4 d) (a.dY.length:Int)).bind λc=>bif (!decide (c=0))then oR (some c)else some (inl ((aC .i64 b.1 1),()))else oR (some 0)) (0,())
def Af:=kf func43 [t12] q0 (u1 rp) [] (p_ 5 11 (.j ⟨[.val 13 y0],[1,11,12]⟩ .e)) [zu]
noncomputable def xQ(a:bW):Y Bool:=some (!a.qM)
def EZ:=kf func45 [.ty y21] q1 (u1 xQ) [] .e []
def fJ(b:Z bW):Y Int:=aE (λ(a:Int×Unit)=>bif decide (a.1<(b.length:Int))then(idx b a.1).bind λc=>(xQ (eT4 c)).bind λd=>bif d then oR (some a.1)else some (inl ((aC .i64 a.1 1),()))else oR (some (-1:Int))) (0,())
def ln:=kf func91 [.ty (Ty.sl (Ty.st .im)),.aQ 45 []] q0 (λa=>fJ a.1) [] (p_ 4 5 (.j ⟨[.val 8 y0],[0,1,7]⟩ .e)) [EZ]
def eY(a:Z bW):Y Bool:=(fJ a).bind λb=>some (decide (0<=b))
def jX:=kf func44 [.ty (Ty.sl (Ty.st .im)),.aQ 45 []] q1 (λa=>eY a.1) [] .e [ln]
noncomputable def oC(a:Int):Y Bool:=(aO (decide (0<=a)) (some (decide (a<10)))).bind some
def uB:=kf func92 [t0] q1 (u1 oC) [] .e []
noncomputable def yh:SA U:=bc (aT prog 8 [5] f94) .e
noncomputable def pR(a:Z Int):Y (Z Int):=bif List.isEmpty a then both (some []) (bif bp 8 (List.length ([]:Z Int)+a.length)then some (([]:Z Int)++a)else none)else bif bp 8 (List.length ([]:Z Int)+a.length)then some (([]:Z Int)++a)else none
def bz(a:Z Int):Y (Z Int):=bif bp 8 (List.length ([]:Z Int)+a.length)then some (([]:Z Int)++a)else none
def zA(a0:Z Int):pR a0=bz a0:=match a0 with|[]=>uT _|_::_=>rfl
noncomputable def lp:KS U prog:=⟨.fn 94 [t11] (.one y11) λa=>bz a.1,NA (K:=K) yh 8 [.tmp 2] [] (fk f94 [5] func94) (hF:=qa4 (b:=λa:((Z Int)×Unit)=>pR a.1) d_ (funext λa=>zA a.1))⟩
noncomputable def FN:SA U:=bc (aT prog 28 [] f47) (.r (.r (.l (.r (.l (.ps (.rS 3 2 44 3 y4) (.j ⟨[.val 15 y0,.box 8 1 y4 [(2,14,2)],.bQ 14 2 false 44 3 y4],[2,3,13,14]⟩ .e)))))))
def AB(rec:(ar×Unit)->Y ar)(b:ar):Y ar:=(bz b.aY).bind λd=>aE (λ(a:Int×ar×Z ar×Unit)=>bif decide (a.1<(b.bC.length:Int))then(idx b.bC a.1).bind λe=>(rec ((af e),())).bind λc=>bif bp 56 (a.2.2.1.length+List.length [(af c)])then some (inl ((aC .i64 a.1 1),(ar.mk a.2.1.aV a.2.1.aY []),(a.2.2.1++[(af c)]),()))else none else oR (some (ar.mk a.2.1.aV a.2.1.aY a.2.2.1))) (0,(ar.mk b.aV d []),[],())
noncomputable def HU:Nat->(ar×Unit)->Y ar:=gO (λrec a=>AB rec a.1)
def bG(a:ar):Y ar:=HU (SizeOf.sizeOf a+1) (a,())
noncomputable def bZ:KS U prog:=⟨.fn 47 [t4] (.one y4) λa=>bG a.1,Bk (K:=K) (A_s:=[t4]) (r:= .one y4) (B:=λrec a=>AB rec a.1) FN 28 [.cell 2 (some 3)] [lp] (fk f47 [] func47) (hF:=λa=>⟨_,rfl⟩)⟩
def vR(a:Int)(b:ar):Y (ay×Int×Unit):=(oC a).bind λc=>bif (!c)then some (zz3,5,())else(bF (af b)).bind λd=>bif (!decide (d=0))then some (zz3,1,())else(bG (af b)).bind λe=>some ((ay.mk a false (af e) []),0,())
def DV:=kf func46 [t0,t4] (.many [y6,y0]) (u2 vR) [] .e [uB,bM,bZ]
def tY(b:bq)(d:Int):Y (aI×Int×Unit):=(rp b).bind λe=>bif (!decide (e=0))then some (zz5,e,())else(eY b.dY).bind λh=>bif h then some (zz5,10,())else(oO (decide ((b.dY.length:Int)=0)) (some (decide (d<0)))).bind λi=>(oO i (if(b.dY.length:Int)<0 then none else some (decide ((dJ .i64 1 (b.dY.length:Int))<=d)))).bind λj=>bif j then some (zz5,1,())else aE (λ(a:Int×aI×aI×Z ay×(Z (Z ar))×Unit)=>bif decide (a.1<(b.dY.length:Int))then(idx b.dY a.1).bind λf=>(vR a.1 (af f.ae)).bind λc=>bif (!decide (c.2.1=0))then oR (some (zz5,c.2.1,()))else bif bp 96 (a.2.2.2.1.length+List.length [(eT3 c.1)])then(bG (af f.ae)).bind λg=>bif bp 24 (a.2.2.2.2.1.length+List.length [[(af g)]])then some (inl ((aC .i64 a.1 1),a.2.1,{a.2.2.1 with aY:=[],fg:=[]},(a.2.2.2.1++[(eT3 c.1)]),(a.2.2.2.2.1++[[(af g)]]),()))else none else none else oR (some ({a.2.2.1 with aY:=a.2.2.2.1,fg:=a.2.2.2.2.1},0,()))) (0,zz5,(aI.mk 0 [] d zz4 []),[],[],())
def Hs:=kf func12 [t12,t0] (.many [y20,y0]) (u2 tY) [] (p_ 8 95 (.ps (.rS 7 1 60 6 y6) (.ps (.rS 7 7 42 1 y14) (.j ⟨[.val 44 y0,.box 1 1 y20 [],.box 29 1 y20 [(1,35,2),(7,36,2)],.bQ 35 2 false 60 6 y6,.bQ 36 2 false 42 1 y14],[4,7,42,43]⟩ .e)))) [Af,jX,DV,bZ]
def nK(s:jH)(a:Z C):Y (C×jH):=(oB s (a.length:Int)).bind λb=>(idx a b.1).bind λc=>some (c,b.2)
def Gj:=kr func55 0 y28 [t13] (.one y2) (λs a=>nK s a.1) [] .e [Cz]
def mN(s:jH):Y (C×jH):=(nK s [(ByteArray.mk #[97]),(ByteArray.mk #[98]),(ByteArray.mk #[99]),(ByteArray.mk #[97,97])]).bind λa=>some (a.1,a.2)
def E0:=kr func18 0 y28 [] (.one y2) (λs a=>mN s) [] .e [Gj]
def sK(c:Z Int):Y Bool:=aE (λ(a:Int×Int×Unit)=>bif decide (a.2.1<(c.length:Int))then(idx c a.2.1).bind λb=>(oO (decide (b=0)) ((fA b).bind λd=>some (!d))).bind λe=>(oO e (some (!decide ((MO .i64 a.1 b)=0)))).bind λf=>bif f then oR (some false)else some (inl ((vB .i64 a.1 b),(aC .i64 a.2.1 1),()))else oR (some (decide ((c.length:Int)<=10)))) (0,0,())
def yx:=kf func117 [t11] q1 (u1 sK) [] (p_ 5 11 (.j ⟨[.val 3 y0,.val 8 y0],[0,6,7]⟩ .e)) [iB]
noncomputable def vf(a:Int):Y Bool:=(oO (decide (a<0)) (some (decide (20<a)))).bind some
def CF:=kf func182 [t0] q1 (u1 vf) [] .e []
def j1(b:Z Int):Y Int:=aE (λ(a:Int×Unit)=>bif decide (a.1<(b.length:Int))then(idx b a.1).bind λc=>(vf c).bind λd=>bif d then oR (some a.1)else some (inl ((aC .i64 a.1 1),()))else oR (some (-1:Int))) (0,())
def rG:=kf func245 [t11,.aQ 182 []] q0 (λa=>j1 a.1) [] (p_ 4 5 (.j ⟨[.val 8 y0],[0,1,7]⟩ .e)) [CF]
def iS(a:Z Int):Y Bool:=(j1 a).bind λb=>some (decide (0<=b))
def pk:=kf func183 [t11,.aQ 182 []] q1 (λa=>iS a.1) [] .e [rG]
def xT(a:Z Int):Y Bool:=(oO (decide ((a.length:Int)=0)) (some (decide ((a.length:Int)=100)))).bind λb=>(aO b ((iS a).bind λc=>some (!c))).bind some
def E5:=kf func118 [t11] q1 (u1 xT) [] .e [pk]
noncomputable def gX(a:Int):Y Bool:=(aO (decide (0<=a)) (some (decide (a<10)))).bind some
def tI:=kf func119 [t0] q1 (u1 gX) [] .e []
noncomputable def nS(a:Int):Y Bool:=some (!decide (a=a))
def Gw:=kf func246 [t0] q1 (u1 nS) [] .e []
def bX(a:Int)(b:Int):Y Int:=(nS a).bind λd=>(nS b).bind λc=>bif d then bif c then some 0 else some (-1:Int)else bif c then some 1 else bif decide (a<b)then some (-1:Int)else bif decide (b<a)then some 1 else some 0
def fm:=kf func185 [t0,t0] q0 (u2 bX) [] .e [Gw]
noncomputable def gG(b:Z Int):Y Int:=aE (λ(a:Int×Unit)=>bif decide (a.1<(b.length:Int))then(idx b a.1).bind λc=>bif (!decide (c=0))then oR (some c)else some (inl ((aC .i64 a.1 1),()))else oR (some 0)) (0,())
def oo:=kf func184 [t11] q0 (u1 gG) [] (p_ 5 11 (.j ⟨[.val 8 y0],[3,6,7]⟩ .e)) []
def lI(a:bA)(b:bA):Y Int:=(bX a.tq b.tq).bind λc=>(bX a.Df b.Df).bind λd=>(bX a.To b.To).bind λe=>(bX a.Number b.Number).bind λf=>(gG [c,d,e,f]).bind some
def vE:=kf func120 [.ty y15,.ty y15] q0 (u2 lI) [] .e [fm,oo]
def kW(d:bI):Y Bool:=(oO (decide (4000<(d.cO.length:Int))) (some (decide (d.Next<0)))).bind λi=>(oO i (some (decide (1000000000<d.Next)))).bind λj=>(oO j ((sK d.gk).bind λk=>some (!k))).bind λl=>(oO l ((xT d.gI).bind λm=>some (!m))).bind λn=>bif n then some false else aE (λ(e:Int×Unit)=>bif decide (e.1<(d.cO.length:Int))then(idx d.cO e.1).bind λb=>aX (λ(o:Bool×Unit)=>bif o.1 then oR (some false)else some (inl ((aC .i64 e.1 1),()))) λa=>(gX b.Df).bind λf=>bif (!f)then a (true,())else(gX b.To).bind λg=>bif (!g)then a (true,())else bif decide (b.Df=b.To)then a (true,())else bif decide (b.tq<0)then a (true,())else bif decide (220<b.tq)then a (true,())else bif decide (b.Number<0)then a (true,())else bif decide (d.Next<=b.Number)then a (true,())else bif decide (0<e.1)then(idx d.cO (iH .i64 e.1 1)).bind λc=>(lI {c with ak:={c.ak with ai:={c.ak.ai with ae:=(af c.ak.ai.ae)},ah:=(eT1 c.ak.ah)}} {b with ak:={b.ak with ai:={b.ak.ai with ae:=(af b.ak.ai.ae)},ah:=(eT1 b.ak.ah)}}).bind λh=>a ((decide (0<=h)),())else a (false,())else oR (some true)) (0,())
def yz:=kf func61 [.ty y25] q1 (u1 kW) [] (p_ 5 11 (.j ⟨[.val 34 y0],[1,32,33]⟩ (p_ 6 38 (.j ⟨[.val 92 y1],[1,32,33,34]⟩ .e)))) [yx,E5,tI,vE]
noncomputable def aU(a:aj):Y Bool:=some (ox false a.al 0 a.Value bE)
def bj:=kf func248 [t3] q1 (u1 aU) [] .e []
noncomputable def kZ(a:C):Y Bool:=some (!decide (a=a))
def CJ:=kf func413 [t2] q1 (u1 kZ) [] .e []
def gH(a:C)(b:C):Y Int:=(kZ a).bind λd=>(kZ b).bind λc=>bif d then bif c then some 0 else some (-1:Int)else bif c then some 1 else bif (mz a b)then some (-1:Int)else bif (!(mz a b||decide (a=b)))then some 1 else some 0
def sn:=kf func369 [t2,t2] q0 (u2 gH) [] .e [CJ]
def ew(a:C)(b:C):Y Int:=(bX (ByteArray.size a:Int) (ByteArray.size b:Int)).bind λc=>(gH a b).bind λd=>(gG [c,d]).bind some
def o8:=kf func451 [t2,t2] q0 (u2 ew) [] .e [fm,sn,oo]
def iX(a:aj)(b:aj):Y Int:=(bX a.al b.al).bind λc=>(ew a.Value b.Value).bind λd=>(gG [c,d]).bind some
def vJ:=kf func412 [t3,t3] q0 (u2 iX) [] .e [fm,o8,oo]
def cP(a:aj)(b:aj):Y Bool:=(iX a b).bind λc=>some (decide (c<0))
def fb:=kf func364 [t3,t3] q1 (u2 cP) [] .e [vJ]
noncomputable def bu(a:aj)(b:aj):Y Bool:=some (decide (a.Value=b.Value))
def cn:=kf func323 [t3,t3] q1 (u2 bu) [] .e []
noncomputable def eO(a:aj):Y Bool:=(aO (decide (1<=a.al)) (some (decide (a.al<=1000)))).bind λb=>(oO b (some (decide (a.al=1000000)))).bind λc=>(aO c (some (decide (1<=(ByteArray.size a.Value:Int))))).bind λd=>(aO d (some (decide ((ByteArray.size a.Value:Int)<=200)))).bind some
def kQ:=kf func322 [t3] q1 (u1 eO) [] .e []
def ix(a:aj):Y Bool:=(eO a).bind λb=>(aO b (some (decide (a.al<=1000)))).bind some
def uG:=kf func321 [t3] q1 (u1 ix) [] .e [kQ]
def gF(a:aj):Y Bool:=(aU a).bind λb=>(oO b ((eO a).bind some)).bind some
def Bd:=kf func365 [t3] q1 (u1 gF) [] .e [bj,kQ]
noncomputable def jz(a:ao)(b:Int):Y aj:=some (aj.mk b a.aG.Value)
def Ac:=kf func366 [t7,t0] (.one y3) (u2 jz) [] .e []
def dw(a:aj)(b:aj):Y Bool:=(aU a).bind λc=>(aO (!c) ((bu a b).bind λd=>some (!d))).bind λe=>(aO e ((cP b a).bind some)).bind some
def qA:=kf func367 [t3,t3] q1 (u2 dw) [] .e [bj,cn,fb]
def fY(a:aj)(b:aj):Y Bool:=(aU a).bind λc=>(aO (!c) ((bu a b).bind some)).bind λd=>(aO d (some (decide (b.al<=a.al)))).bind some
def qz:=kf func368 [t3,t3] q1 (u2 fY) [] .e [bj,cn]
def eu(c:aj)(a:aj)(b:aj):Y Bool:=(fY c b).bind λd=>(oO d ((fY a b).bind some)).bind λe=>(oO e ((aU a).bind λf=>(aO (!f) ((cP b a).bind some)).bind some)).bind some
def kR:=kf func324 [t3,t3,t3] q1 (u3 eu) [] .e [qz,bj,fb]
def sN(a:ao):Y Bool:=(aU a.bD).bind λr=>(oO r ((aU a.aR).bind λs=>(aO (!s) ((cP a.bD a.aR).bind some)).bind λt=>(aO t ((bu a.bD a.aR).bind λu=>some (!u))).bind some)).bind λv=>(ix a.aG).bind λw=>(oO (!w) ((gF a.aR).bind λx=>some (!x))).bind λd=>(oO d ((gF a.bD).bind λe=>some (!e))).bind λf=>(oO f (some (!v))).bind λg=>(oO g (some (decide (a.eX<0)))).bind λh=>(oO h (some (decide (a.dZ<a.eX)))).bind λi=>(oO i (some (decide (a.aG.al<a.dZ)))).bind λj=>bif j then some false else(jz (eT1 a) a.eX).bind λc=>aX (λ(k:Bool×Unit)=>some k.1) λb=>bif decide (a.dZ=0)then bif decide (a.eX=0)then b (true,())else(dw a.aR c).bind λl=>bif (!l)then(dw a.bD c).bind λm=>b ((!m),())else b (false,())else(jz (eT1 a) a.dZ).bind λn=>(eu a.aR a.bD n).bind λo=>bif o then bif decide (a.eX=0)then b (true,())else(dw a.aR c).bind λp=>bif (!p)then(dw a.bD c).bind λq=>b ((!q),())else b (false,())else b (false,())
def Bc:=kf func320 [t7] q1 (u1 sN) [] (p_ 4 15 (.j ⟨[.val 2 y1],[]⟩ .e)) [bj,fb,cn,uG,Bd,Ac,qA,kR]
def dg(a:ao):Y Bool:=(oO (decide (a.aF<0)) (some (decide (10<=a.aF)))).bind λk=>(oO k (some (decide (a.bt<1)))).bind λl=>(oO l (some (decide (1000000<a.bt)))).bind λm=>(oO m (some (decide (a.c6<1)))).bind λn=>(oO n (some (decide (1000000<a.c6)))).bind λo=>(oO o ((bF (af a.ae)).bind λp=>some (!decide (p=0)))).bind λq=>bif q then some false else(aO (decide (1<=a.eX)) (some (decide (a.eX<=a.dZ)))).bind λr=>(aO r (some (decide (a.dZ<=1000)))).bind λj=>bif decide (a.cQ=1)then(sN (eT1 a)).bind some else bif decide (a.cQ=2)then(ix a.aG).bind λb=>(aO b ((eO a.aR).bind some)).bind λc=>(aO c ((bu a.aR a.aG).bind some)).bind λd=>(aO d ((aU a.bD).bind some)).bind λe=>(aO e (some j)).bind λf=>(aO f (some (decide (a.dZ<=a.aR.al)))).bind some else aO (decide (a.cQ=3)) ((eO a.aG).bind λg=>(aO g ((aU a.aR).bind some)).bind λh=>(aO h ((aU a.bD).bind some)).bind λi=>(aO i (some j)).bind some)
def dE:=kf func250 [t7] q1 (u1 dg) [] .e [bM,Bc,uG,kQ,cn,bj]
def yP(a:aW):Y Bool:=aE (λ(b:Int×Unit)=>bif decide (b.1<(a.bn.length:Int))then(idx a.bn b.1).bind λd=>aX (λ(e:Bool×Unit)=>bif e.1 then oR (some false)else some (inl ((aC .i64 b.1 1),()))) λc=>(dg (eT1 d)).bind λf=>bif (!f)then c (true,())else bif (!decide (d.bt=a.bt))then c (true,())else bif decide (d.aF=a.aF)then c (true,())else bif decide (0<b.1)then(idx a.bn (iH .i64 b.1 1)).bind λg=>c ((decide (d.aF<=g.aF)),())else c (false,())else oR (some true)) (0,())
def Gp:=kf func247 [t9] q1 (u1 yP) [] (p_ 4 5 (.j ⟨[.val 8 y0],[1,6,7]⟩ (p_ 6 38 (.j ⟨[.val 45 y1],[1,6,7,8]⟩ .e)))) [dE]
noncomputable def yQ(a:aW):Y Bool:=(aO (decide (a.eo=1)) (some (decide (a.c6=0)))).bind λb=>(aO b (some (ox false a.aR.al 0 a.aR.Value bE))).bind λc=>(aO c (some (ox false a.bD.al 0 a.bD.Value bE))).bind λd=>(aO d (some (ox false a.bN.al 0 a.bN.Value bE))).bind λe=>(aO e (some (decide (a.eX=0)))).bind λf=>(aO f (some (decide (a.dZ=0)))).bind some
def Gq:=kf func249 [t9] q1 (u1 yQ) [] .e []
def cx(a:aW):Y ao:=aX (λ(c:ao×Unit)=>some (eT1 c.1)) λb=>bif decide (a.eo=1)then(aU a.bN).bind λd=>(aO (!d) ((bu a.bN a.aG).bind some)).bind λe=>bif e then b ({a with ae:=(af a.ae),cQ:=a.eo,dZ:=a.bN.al},())else b ({a with ae:=(af a.ae),cQ:=a.eo,dZ:=0},())else b ({a with ae:=(af a.ae),cQ:=a.eo},())
def eI:=kf func251 [t9] (.one y7) (u1 cx) [] (p_ 2 3 (.j ⟨[.box 23 1 y7 []],[2,3]⟩ .e)) [bj,cn]
def te(a:aW):Y Bool:=(aU a.bN).bind λb=>oO b ((eO a.bN).bind λc=>(oO (!c) (some (decide (1000<a.bN.al)))).bind λd=>bif d then some false else(eu a.aR a.bD a.bN).bind λe=>(oO e ((aO (!decide (a.eo=1)) ((bu a.bN a.aG).bind some)).bind some)).bind some)
def BX:=kf func252 [t9] q1 (u1 te) [] .e [bj,kQ,kR,cn]
def fB(a:aW):Y Bool:=(oO (decide (a.aF<0)) (some (decide (10<=a.aF)))).bind λi=>(oO i (some (decide (a.bt<1)))).bind λj=>(oO j (some (decide (1000000<a.bt)))).bind λk=>(oO k (some (decide (a.c6<0)))).bind λl=>(oO l (some (decide (1000000<a.c6)))).bind λm=>(oO m ((bF (af a.ae)).bind λn=>some (!decide (n=0)))).bind λo=>(oO o (some (decide (200<(ByteArray.size a.fX:Int))))).bind λp=>(oO p ((yP (eT2 a)).bind λq=>some (!q))).bind λb=>bif b then some false else(aU a.aG).bind λc=>bif c then(yQ (eT2 a)).bind some else(cx (eT2 a)).bind λd=>(dg (eT1 d)).bind λe=>(aO e ((te (eT2 a)).bind some)).bind λf=>(aO f ((oO (!decide (a.eo=1)) (some (decide (a.dZ=0)))).bind some)).bind λg=>(aO g ((oO (!(!decide (a.eo=1))) ((aU a.bD).bind some)).bind some)).bind λh=>(aO h ((oO (!decide (a.eo=3)) ((aU a.aR).bind some)).bind some)).bind some
def gy:=kf func187 [t9] q1 (u1 fB) [] .e [bM,Gp,bj,Gq,eI,dE,BX]
def pE(a:aW):Y (C×Bool×Unit):=(oO (!decide (a.eo=3)) ((fB (eT2 a)).bind λb=>some (!b))).bind λc=>bif c then some (bE,false,())else some (a.aG.Value,true,())
def vH:=kf func186 [t9] (.many [y2,y1]) (u1 pE) [] .e [gy]
noncomputable def lH(a:Int):Y Bool:=(aO (decide (0<=a)) (some (decide (a<10)))).bind some
def pq:=kf func325 [t0] q1 (u1 lH) [] .e []
def sG(a:aD):Y Bool:=(lH a.aF).bind λb=>(aO b (some (decide (0<=a.bt)))).bind λc=>(aO c (some (decide (a.bt<=1000000)))).bind λd=>(aO d (some (decide (1<=a.Round)))).bind λe=>(aO e (some (decide (a.Round<=1000)))).bind λf=>(aO f (some (decide (1<=a.c6)))).bind λg=>(aO g (some (decide (a.c6<=1000000)))).bind some
def A7:=kf func253 [t8] q1 (u1 sG) [] .e [pq]
noncomputable def oE(a:C):Y Bool:=(aO (decide (1<=(ByteArray.size a:Int))) (some (decide ((ByteArray.size a:Int)<=200)))).bind some
def uC:=kf func326 [t2] q1 (u1 oE) [] .e []
def eA(a:C)(b:C):Y Int:=(bX (ByteArray.size a:Int) (ByteArray.size b:Int)).bind λc=>(gH a b).bind λd=>(gG [c,d]).bind some
def jf:=kf func327 [t2,t2] q0 (u2 eA) [] .e [fm,sn,oo]
def gK(b:Z C):Y Bool:=aE (λ(a:Int×Unit)=>bif decide (a.1<(b.length:Int))then(idx b a.1).bind λc=>(oE c).bind λd=>(oO (!d) ((aO (decide (0<a.1)) ((idx b (iH .i64 a.1 1)).bind λe=>(eA e c).bind λf=>some (decide (0<=f)))).bind some)).bind λg=>bif g then oR (some false)else some (inl ((aC .i64 a.1 1),()))else oR (some (decide ((b.length:Int)<=40)))) (0,())
def vD:=kf func254 [t13] q1 (u1 gK) [] (p_ 4 5 (.j ⟨[.val 7 y0],[0,5,6]⟩ .e)) [uC,jf]
noncomputable def lZ(b:Z C)(c:C):Y Int:=aE (λ(a:Int×Unit)=>bif decide (a.1<(b.length:Int))then(idx b a.1).bind λd=>bif decide (c=d)then oR (some a.1)else some (inl ((aC .i64 a.1 1),()))else oR (some (-1:Int))) (0,())
def tE:=kf func370 [t13,t2] q0 (u2 lZ) [] (p_ 4 5 (.j ⟨[.val 8 y0],[0,1,7]⟩ .e)) []
def ka(a:Z C)(b:C):Y Bool:=(lZ a b).bind λc=>some (decide (0<=c))
def rH:=kf func329 [t13,t2] q1 (u2 ka) [] .e [tE]
def jL(a:Z C)(b:C):Y Bool:=(ka a b).bind some
def qw:=kf func257 [t13,t2] q1 (u2 jL) [] .e [rH]
def sH(a:C)(b:aD):Y Bool:=(jL b.bL a).bind λc=>some (!c)
def A8:=kf func256 [t2,.ref (t8)] q1 (u2 sH) [] .e [qw]
def hU(b:Z C)(c:aD):Y Int:=aE (λ(a:Int×Unit)=>bif decide (a.1<(b.length:Int))then(idx b a.1).bind λd=>(sH d (eT0 c)).bind λe=>bif e then oR (some a.1)else some (inl ((aC .i64 a.1 1),()))else oR (some (-1:Int))) (0,())
def nV:=kf func328 [t13,.aQ 256 [.ref (t8)]] q0 (λa=>hU a.1 a.2.1.1) [] (p_ 4 5 (.j ⟨[.val 8 y0],[0,1,7]⟩ .e)) [A8]
def gD(a:Z C)(b:aD):Y Bool:=(hU a (eT0 b)).bind λc=>some (decide (0<=c))
def mC:=kf func255 [t13,.aQ 256 [.ref (t8)]] q1 (λa=>gD a.1 a.2.1.1) [] .e [nV]
def oG(a:aA):Y Bool:=(lH a.aF).bind λb=>(aO b (some (decide (1<=a.c6)))).bind λc=>(aO c ((bF (af a.ae)).bind λd=>some (decide (d=0)))).bind λe=>(aO e ((gK a.du).bind some)).bind λf=>(aO f ((gK a.bL).bind some)).bind some
def uE:=kf func258 [.ty y16] q1 (u1 oG) [] .e [pq,bM,vD]
def iw(a:aD):Y Bool:=(sG (eT0 a)).bind λi=>(oO (!i) ((bF (af a.ae)).bind λj=>some (!decide (j=0)))).bind λk=>(oO k (some (decide (200<(ByteArray.size a.sC:Int))))).bind λl=>bif l then some false else(gK a.du).bind λm=>(oO (!m) ((gK a.bL).bind λn=>some (!n))).bind λo=>(oO o ((gK a.dm).bind λp=>some (!p))).bind λq=>bif q then some false else(gD a.dm (eT0 a)).bind λe=>bif e then some false else aE (λ(b:Int×Unit)=>bif decide (b.1<(a.bn.length:Int))then(idx a.bn b.1).bind λc=>aX (λ(f:Bool×Unit)=>bif f.1 then oR (some false)else some (inl ((aC .i64 b.1 1),()))) λd=>(oG {c with ae:=(af c.ae)}).bind λg=>bif (!g)then d (true,())else bif decide (c.aF=a.aF)then d (true,())else bif decide (0<b.1)then(idx a.bn (iH .i64 b.1 1)).bind λh=>d ((decide (c.aF<=h.aF)),())else d (false,())else oR (some true)) (0,())
def kP:=kf func188 [t8] q1 (u1 iw) [] (p_ 7 47 (.j ⟨[.val 43 y0],[1,41,42]⟩ (p_ 6 38 (.j ⟨[.val 73 y1],[1,41,42,43]⟩ .e)))) [A7,bM,vD,mC,uE]
noncomputable def pT(b:Z Int)(c:Z Int):Y Bool:=bif (!decide ((b.length:Int)=(c.length:Int)))then some false else aE (λ(a:Int×Unit)=>bif decide (a.1<(b.length:Int))then(idx b a.1).bind λd=>(idx c a.1).bind λe=>bif (!decide (d=e))then oR (some false)else some (inl ((aC .i64 a.1 1),()))else oR (some true)) (0,())
def zl:=kf func190 [t11,t11] q1 (u2 pT) [] (p_ 5 11 (.j ⟨[.val 13 y0],[0,1,12]⟩ .e)) []
noncomputable def fT:SA U:=bc (aT prog 32 [] f191) (.r (.r (.l (.r (.l (.j ⟨[.val 17 y0],[1,2,15,16]⟩ .e))))))
noncomputable def dC(rec:(ar×ar×Unit)->Y Bool)(b:Z ar)(c:Z ar):Y Bool:=bif (!decide ((b.length:Int)=(c.length:Int)))then some false else aE (λ(a:Int×Unit)=>bif decide (a.1<(b.length:Int))then(idx b a.1).bind λd=>(idx c a.1).bind λe=>(rec ((af d),(af e),())).bind λf=>bif (!f)then oR (some false)else some (inl ((aC .i64 a.1 1),()))else oR (some true)) (0,())
noncomputable def gf(g:(ar×ar×Unit)->Y Bool)(h:bS.Sound prog (U:=U) (.fn 122 [t4,t4] q1 g)):KS U prog:=⟨.fn 191 [t14,t14,.aQ 122 []] q1 λa=>dC g a.1 a.2.1,NA (K:=K) fT 32 [.tmp 6] (⟨_,h⟩::[]) (fk f191 [] func191)⟩
noncomputable def DK:SA U:=bc (aT prog 24 [] f122) .e
def ye(rec:(ar×ar×Unit)->Y Bool)(a:ar)(b:ar):Y Bool:=(aO (decide (a.aV=b.aV)) ((pT a.aY b.aY).bind some)).bind λc=>(aO c ((dC rec a.bC b.bC).bind some)).bind some
noncomputable def FA:Nat->(ar×ar×Unit)->Y Bool:=gO (λrec a=>ye rec a.1 a.2.1)
def ez(a:ar)(b:ar):Y Bool:=FA (SizeOf.sizeOf a+SizeOf.sizeOf b+1) (a,b,())
noncomputable def eV:KS U prog:=⟨.fn 122 [t4,t4] q1 λa=>ez a.1 a.2.1,U6 (K:=K) (A_s:=[t4,t4]) (r:= .one y1) (B:=λrec a=>ye rec a.1 a.2.1) DK 24 [.tmp 4] (λg h=>[gf g h,zl]) (fk f122 [] func122) (hF:=λa=>⟨_,rfl⟩)⟩
noncomputable def tX(a:gB):Y Bool:=(aO (decide (0<=a.al)) (some (decide (a.al<=1000000)))).bind λb=>(aO b (some (decide ((-1:Int)<=a.tq)))).bind λc=>(aO c (some (decide (a.tq<=212)))).bind some
def zP:=kf func189 [.ty (Ty.st .Timer)] q1 (u1 tX) [] .e []
def ir(a:ba):Y Bool:=(pE (eT2 a.aa)).bind λh=>(fB (eT2 a.aa)).bind λi=>(aO i ((iw (eT0 a.aP)).bind some)).bind λj=>(aO j (some (decide (a.aP.aF=a.aa.aF)))).bind λk=>(aO k (some (decide (a.aP.bt=a.aa.bt)))).bind λl=>(aO l ((ez (af a.aP.ae) (af a.aa.ae)).bind some)).bind λm=>(aO m ((tX a.Timer).bind some)).bind λb=>(aO b (some (decide (1<=a.Round)))).bind λc=>(aO c (some (decide (a.Round<=1000)))).bind λd=>(aO d (some (decide (0<=a.Next)))).bind λe=>(aO e (some (decide (a.Next<=212)))).bind λf=>(aO f (some (xor false (decide (a.FC=h.2.1))))).bind λg=>(aO g (some (decide (a.Value=h.1)))).bind some
def jE:=kf func121 [t5] q1 (u1 ir) [] .e [vH,gy,kP,eV,zP]
def dy(a:ay):Y Bool:=(oC a.aF).bind λg=>(oO (!g) ((bF (af a.ae)).bind λh=>some (!decide (h=0)))).bind λi=>(oO i (some (decide (8<(a.b0.length:Int))))).bind λj=>bif j then some false else aE (λ(b:Int×Unit)=>bif decide (b.1<(a.b0.length:Int))then(idx a.b0 b.1).bind λd=>aX (λ(k:Bool×Unit)=>bif k.1 then oR (some false)else some (inl ((aC .i64 b.1 1),()))) λc=>(ir (eT5 d)).bind λl=>bif (!l)then c (true,())else bif (!decide (d.aa.aF=a.aF))then c (true,())else(ez (af d.aa.ae) (af a.ae)).bind λe=>bif (!e)then c (true,())else bif decide (0<b.1)then(idx a.b0 (iH .i64 b.1 1)).bind λf=>c ((decide (d.aa.bt<=f.aa.bt)),())else c (false,())else oR (some true)) (0,())
def dV:=kf func62 [t6] q1 (u1 dy) [] (p_ 5 11 (.j ⟨[.val 24 y0],[1,22,23]⟩ (p_ 6 38 (.j ⟨[.val 66 y1],[1,22,23,24]⟩ .e)))) [uB,bM,jE,eV]
def tc(a:ar)(b:ar):Y Bool:=(ez (af a) (af b)).bind some
def BU:=kf func124 [t4,.ref (t4)] q1 (u2 tc) [] .e [eV]
def fR(b:Z ar)(c:ar):Y Int:=aE (λ(a:Int×Unit)=>bif decide (a.1<(b.length:Int))then(idx b a.1).bind λd=>(tc (af d) (af c)).bind λe=>bif e then oR (some a.1)else some (inl ((aC .i64 a.1 1),()))else oR (some (-1:Int))) (0,())
def lF:=kf func192 [t14,.aQ 124 [.ref (t4)]] q0 (λa=>fR a.1 a.2.1.1) [] (p_ 4 5 (.j ⟨[.val 8 y0],[0,1,7]⟩ .e)) [BU]
def fl(a:Z ar)(b:ar):Y Bool:=(fR a (af b)).bind λc=>some (decide (0<=c))
def kl:=kf func123 [t14,.aQ 124 [.ref (t4)]] q1 (λa=>fl a.1 a.2.1.1) [] .e [lF]
def vP(b:Z ar)(d:ar):Y Bool:=aE (λ(a:Bool×Int×Unit)=>bif decide (a.2.1<(b.length:Int))then(idx b a.2.1).bind λc=>(bF (af c)).bind λe=>(oO (!decide (e=0)) (bif eR 0 a.2.1 (b.length)then(fl ((b.take (toNat a.2.1)).drop (toNat 0)) (af c)).bind some else none)).bind λf=>bif f then oR (some false)else(oO a.1 ((ez (af c) (af d)).bind some)).bind λg=>some (inl (g,(aC .i64 a.2.1 1),()))else oR ((aO a.1 (some (decide ((b.length:Int)<=4)))).bind some)) (false,0,())
def DS:=kf func63 [t14,t4] q1 (u2 vP) [] (p_ 5 11 (.j ⟨[.val 5 y1,.val 10 y0],[0,3,8,9]⟩ .e)) [bM,kl,eV]
def mL(a:aI):Y Bool:=aX (λ(g:Bool×Unit)=>bif g.1 then some false else aE (λ(c:Int×Unit)=>bif decide (c.1<(a.aY.length:Int))then(idx a.aY c.1).bind λd=>aX (λ(h:Bool×Unit)=>bif h.1 then oR (some false)else some (inl ((aC .i64 c.1 1),()))) λe=>bif (!decide (d.aF=c.1))then e (true,())else(dy (eT3 d)).bind λi=>bif (!i)then e (true,())else(idx a.fg c.1).bind λj=>(vP j (af d.ae)).bind λk=>e ((!k),())else oR (some true)) (0,())) λb=>bif decide (a.Time<0)then b (true,())else bif decide (200<a.Time)then b (true,())else bif decide ((a.aY.length:Int)<1)then b (true,())else bif decide (10<(a.aY.length:Int))then b (true,())else bif decide (a.fP<0)then b (true,())else if(a.aY.length:Int)<0 then none else bif decide ((dJ .i64 1 (a.aY.length:Int))<=a.fP)then b (true,())else bif (!decide ((a.fg.length:Int)=(a.aY.length:Int)))then b (true,())else(kW a.Net).bind λf=>b ((!f),())
def xw:=kf func24 [.ty y20] q1 (u1 mL) [] (p_ 2 3 (.b (.j ⟨[.val 49 y1],[1]⟩ .e) (p_ 3 2 (.j ⟨[.val 53 y0],[1,51,52]⟩ (p_ 6 38 (.j ⟨[.val 77 y1],[1,51,52,53]⟩ .e)))))) [yz,dV,DS]
noncomputable def sQ:SA U:=bc (aT prog 8 [5] f303) (.r (.l (.r (.l (.l (.g [(1,.ps (.own 2 9 1 y2))]))))))
noncomputable def lX(a:Z C):Y (Z C):=bif List.isEmpty a then both (some []) (bif bp 16 (List.length ([]:Z C)+a.length)then some (([]:Z C)++a)else none)else bif bp 16 (List.length ([]:Z C)+a.length)then some (([]:Z C)++a)else none
def bl(a:Z C):Y (Z C):=bif bp 16 (List.length ([]:Z C)+a.length)then some (([]:Z C)++a)else none
def tO(a0:Z C):lX a0=bl a0:=match a0 with|[]=>uT _|_::_=>rfl
noncomputable def dX:KS U prog:=⟨.fw 303 [t13] 9 1 y2 λa=>bl a.1,CQ (K:=K) sQ 8 [.tmp 2] [] (fk f303 [5] func303) (hF:=qa4 (b:=λa:((Z C)×Unit)=>lX a.1) d_ (funext λa=>tO a.1))⟩
def jV(a:aA):Y aA:=(bG (af a.ae)).bind λb=>(bl a.du).bind λc=>(bl a.bL).bind λd=>some (aA.mk a.aF a.c6 (af b) c d)
def nj:=kf func279 [.ty y16] (.one y16) (u1 jV) [] .e [bZ,dX]
noncomputable def pH:SA U:=bc (aT prog 22 [] f304) (.r (.r (.l (.r (.l (.ps (.own 5 52 7 y16) (.j ⟨[.val 10 y0,.own 5 5 2 false 52 7 y16],[1,8,9]⟩ .e)))))))
def jN(c:Z aA):Y (Z aA):=aE (λ(a:Int×Z aA×Unit)=>bif decide (a.1<(c.length:Int))then(idx c a.1).bind λd=>(jV {d with ae:=(af d.ae)}).bind λb=>bif bp 120 (a.2.1.length+List.length [{b with ae:=(af b.ae)}])then some (inl ((aC .i64 a.1 1),(a.2.1++[{b with ae:=(af b.ae)}]),()))else none else oR (some a.2.1)) (0,[],())
noncomputable def qy:KS U prog:=⟨.fw 304 [.ty y27,.aQ 279 []] 52 7 y16 λa=>jN a.1,CQ (K:=K) pH 22 [.tmp 4] [nj] (fk f304 [] func304)⟩
def lJ(a:ao):Y ao:=(bG (af a.ae)).bind λb=>some {a with ae:=(af b)}
def pt:=kf func306 [t7] (.one y7) (u1 lJ) [] .e [bZ]
noncomputable def rC:SA U:=bc (aT prog 22 [] f305) (.r (.r (.l (.r (.l (.ps (.own 5 48 15 y7) (.j ⟨[.val 10 y0,.own 5 5 2 false 48 15 y7],[1,8,9]⟩ .e)))))))
def eN(b:Z ao):Y (Z ao):=aE (λ(a:Int×Z ao×Unit)=>bif decide (a.1<(b.length:Int))then(idx b a.1).bind λd=>(lJ (eT1 d)).bind λc=>bif bp 176 (a.2.1.length+List.length [(eT1 c)])then some (inl ((aC .i64 a.1 1),(a.2.1++[(eT1 c)]),()))else none else oR (some a.2.1)) (0,[],())
noncomputable def gz:KS U prog:=⟨.fw 305 [t17,.aQ 306 []] 48 15 y7 λa=>eN a.1,CQ (K:=K) rC 22 [.tmp 4] [pt] (fk f305 [] func305)⟩
def iM(a:ba):Y ba:=(bG (af a.aP.ae)).bind λb=>(bl a.aP.du).bind λc=>(bl a.aP.bL).bind λd=>(bl a.aP.dm).bind λe=>(jN a.aP.bn).bind λf=>(bG (af a.aa.ae)).bind λg=>(eN a.aa.bn).bind λh=>some {a with aP:={a.aP with ae:=(af b),du:=c,bL:=d,dm:=e,bn:=f},aa:={a.aa with ae:=(af g),bn:=h}}
def kC:=kf func232 [t5] (.one y5) (u1 iM) [] .e [bZ,dX,qy,gz]
noncomputable def uv:SA U:=bc (aT prog 22 [] f231) (.r (.r (.l (.r (.l (.ps (.own 5 117 37 y5) (.j ⟨[.val 10 y0,.own 5 5 2 false 117 37 y5],[1,8,9]⟩ .e)))))))
def cF(b:Z ba):Y (Z ba):=aE (λ(a:Int×Z ba×Unit)=>bif decide (a.1<(b.length:Int))then(idx b a.1).bind λd=>(iM (eT5 d)).bind λc=>bif bp 496 (a.2.1.length+List.length [(eT5 c)])then some (inl ((aC .i64 a.1 1),(a.2.1++[(eT5 c)]),()))else none else oR (some a.2.1)) (0,[],())
noncomputable def de:KS U prog:=⟨.fw 231 [.ty y31,.aQ 232 []] 117 37 y5 λa=>cF a.1,CQ (K:=K) uv 22 [.tmp 4] [kC] (fk f231 [] func231)⟩
def sO(a:ay):Y ay:=(bG (af a.ae)).bind λb=>(cF a.b0).bind λc=>some {a with ae:=(af b),b0:=c}
def Be:=kf func163 [t6] (.one y6) (u1 sO) [] .e [bZ,de]
noncomputable def pd:SA U:=bc (aT prog 22 [] f162) (.r (.r (.l (.r (.l (.ps (.own 5 60 6 y6) (.j ⟨[.val 10 y0,.own 5 5 2 false 60 6 y6],[1,8,9]⟩ .e)))))))
def fL(b:Z ay):Y (Z ay):=aE (λ(a:Int×Z ay×Unit)=>bif decide (a.1<(b.length:Int))then(idx b a.1).bind λd=>(sO (eT3 d)).bind λc=>bif bp 96 (a.2.1.length+List.length [(eT3 c)])then some (inl ((aC .i64 a.1 1),(a.2.1++[(eT3 c)]),()))else none else oR (some a.2.1)) (0,[],())
noncomputable def pL:KS U prog:=⟨.fw 162 [.ty (Ty.sl (Ty.st .dF)),.aQ 163 []] 60 6 y6 λa=>fL a.1,CQ (K:=K) pd 22 [.tmp 4] [Be] (fk f162 [] func162)⟩
def sP(a:aN):Y aN:=(jV {a.ai with ae:=(af a.ai.ae)}).bind λb=>(lJ (eT1 a.ah)).bind λc=>some {a with ai:={b with ae:=(af b.ae)},ah:=(eT1 c)}
def yA:=kf func283 [.ty y22] (.one y22) (u1 sP) [] .e [nj,pt]
def yU(a:bA):Y bA:=(sP {a.ak with ai:={a.ak.ai with ae:=(af a.ak.ai.ae)},ah:=(eT1 a.ak.ah)}).bind λb=>some {a with ak:={b with ai:={b.ai with ae:=(af b.ai.ae)},ah:=(eT1 b.ah)}}
def Gu:=kf func223 [.ty y15] (.one y15) (u1 yU) [] .e [yA]
noncomputable def sR:SA U:=bc (aT prog 22 [] f222) (.r (.r (.l (.r (.l (.ps (.own 5 158 28 y15) (.j ⟨[.val 10 y0,.own 5 5 2 false 158 28 y15],[1,8,9]⟩ .e)))))))
def dp(d:Z bA):Y (Z bA):=aE (λ(b:Int×Z bA×Unit)=>bif decide (b.1<(d.length:Int))then(idx d b.1).bind λc=>(yU {c with ak:={c.ak with ai:={c.ak.ai with ae:=(af c.ak.ai.ae)},ah:=(eT1 c.ak.ah)}}).bind λa=>bif bp 344 (b.2.1.length+List.length [{a with ak:={a.ak with ai:={a.ak.ai with ae:=(af a.ak.ai.ae)},ah:=(eT1 a.ak.ah)}}])then some (inl ((aC .i64 b.1 1),(b.2.1++[{a with ak:={a.ak with ai:={a.ak.ai with ae:=(af a.ak.ai.ae)},ah:=(eT1 a.ak.ah)}}]),()))else none else oR (some b.2.1)) (0,[],())
noncomputable def tJ:KS U prog:=⟨.fw 222 [.ty y26,.aQ 223 []] 158 28 y15 λa=>dp a.1,CQ (K:=K) sR 22 [.tmp 4] [Gu] (fk f222 [] func222)⟩
noncomputable def uu:SA U:=bc (aT prog 22 [] f166) (.r (.r (.l (.r (.l (.ps (.own 5 44 3 y4) (.j ⟨[.val 10 y0,.own 5 5 2 false 44 3 y4],[1,8,9]⟩ .e)))))))
def mW(b:Z ar):Y (Z ar):=aE (λ(a:Int×Z ar×Unit)=>bif decide (a.1<(b.length:Int))then(idx b a.1).bind λd=>(bG (af d)).bind λc=>bif bp 56 (a.2.1.length+List.length [(af c)])then some (inl ((aC .i64 a.1 1),(a.2.1++[(af c)]),()))else none else oR (some a.2.1)) (0,[],())
noncomputable def vu:KS U prog:=⟨.fw 166 [t14,.aQ 47 []] 44 3 y4 λa=>mW a.1,CQ (K:=K) uu 22 [.tmp 4] [bZ] (fk f166 [] func166)⟩
def xY(a:Z ar):Y (Z ar):=(mW a).bind some
def E9:=kf func165 [t14] (.one y14) (u1 xY) [] .e [vu]
noncomputable def tx:SA U:=bc (aT prog 22 [] f164) (.r (.r (.l (.r (.l (.ps (.own 5 42 1 y14) (.j ⟨[.val 10 y0,.own 5 5 2 false 42 1 y14],[1,8,9]⟩ .e)))))))
def iz(b:(Z (Z ar))):Y (Z (Z ar)):=aE (λ(a:Int×(Z (Z ar))×Unit)=>bif decide (a.1<(b.length:Int))then(idx b a.1).bind λd=>(xY d).bind λc=>bif bp 24 (a.2.1.length+List.length [c])then some (inl ((aC .i64 a.1 1),(a.2.1++[c]),()))else none else oR (some a.2.1)) (0,[],())
noncomputable def uH:KS U prog:=⟨.fw 164 [.ty (Ty.sl y14),.aQ 165 []] 42 1 y14 λa=>iz a.1,CQ (K:=K) tx 22 [.tmp 4] [E9] (fk f164 [] func164)⟩
noncomputable def kp(b:cq)(a:Int):Y Bool:=(aO (decide (0<=a)) (some (decide (a<(b.World.aY.length:Int))))).bind some
def o3:=kf func167 [.ref (.ty y24),t0] q1 (u2 kp) [] .e []
def o9(b:cq)(a:eF):Y Bool:=(oO (decide (a.cQ=2)) (some (decide (a.cQ=6)))).bind λc=>(oO c ((kp b a.aF).bind some)).bind some
def yi:=kf func102 [.ref (.ty y24),.ty y23] q1 (u2 o9) [] .e [o3]
noncomputable def eG(b:Int)(a:Int):Y Bool:=if a<0 then none else some (decide ((MO .i64 (iI .i64 b a) 1)=1))
def zQ:=kf func56 [t0,t0] q1 (u2 eG) [] .e []
noncomputable def me(a:ba)(b:Int):Y Int:=some (iH .i64 a.aa.bt b)
def zU:=kf func308 [t5,t0] q0 (u2 me) [] .e []
def a8(b:Z ba)(c:Int):Y (Int×Bool×Unit):=aE (λ(a:Int×Int×Unit)=>bif decide (a.1<a.2.1)then(idx b (bB .i64 (iI .u64 (bB .u64 (aC .i64 a.1 a.2.1)) 1))).bind λd=>(me (eT5 d) c).bind λe=>bif decide (e<0)then some (inl ((aC .i64 (bB .i64 (iI .u64 (bB .u64 (aC .i64 a.1 a.2.1)) 1)) 1),a.2.1,()))else some (inl (a.1,(bB .i64 (iI .u64 (bB .u64 (aC .i64 a.1 a.2.1)) 1)),()))else oR ((aO (decide (a.1<(b.length:Int))) ((idx b a.1).bind λf=>(me (eT5 f) c).bind λg=>some (decide (g=0)))).bind λh=>some (a.1,h,()))) (0,(b.length:Int),())
def db:=kf func307 [.ty y31,t0,.aQ 308 []] (.many [y0,y1]) (λa=>a8 a.1 a.2.1) [] (p_ 5 7 (.j ⟨[.val 9 y0,.val 10 y0],[0,1,2,8]⟩ .e)) [zU]
noncomputable def vw(a:Int):Y Bool:=(aO (decide (0<=a)) (some (decide (a<=200)))).bind some
def BH:=kf func274 [t0] q1 (u1 vw) [] .e []
def BM(a:Int)(b:Int)(c:ar):Y (aW×Int×Unit):=(oO (decide (a<0)) (some (decide (10<=a)))).bind λd=>bif d then some (zz1,5,())else(oO (decide (b<1)) (some (decide (1000000<b)))).bind λe=>bif e then some (zz1,77,())else(bF (af c)).bind λf=>bif (!decide (f=0))then some (zz1,1,())else(bG (af c)).bind λg=>some ((aW.mk a b 0 (af g) 1 zB zB zB zB 0 0 bE []),0,())
def IP:=kf func309 [t0,t0,t4] (.many [y9,y0]) (u3 BM) [] .e [bM,bZ]
def yR(e:ar)(a:Int)(b:Int)(c:Int):Y Int:=(bF (af e)).bind λd=>bif (!decide (d=0))then some d else(oO (decide (a<0)) (some (decide (10<=a)))).bind λf=>bif f then some 5 else(oO (decide (b<0)) (some (decide (1000000<b)))).bind λg=>(oO g (some (decide (c<1)))).bind λh=>(oO h (some (decide (1000<c)))).bind λi=>bif i then some 1 else some 0
def Gr:=kf func470 [t4,t0,t0,t0] q0 (u4 yR) [] .e [bM]
noncomputable def pS(b:Z Int)(c:Int):Y Int:=aE (λ(a:Int×Unit)=>bif decide (a.1<(b.length:Int))then(idx b a.1).bind λd=>bif decide (c=d)then oR (some a.1)else some (inl ((aC .i64 a.1 1),()))else oR (some (-1:Int))) (0,())
def zk:=kf func574 [t11,t0] q0 (u2 pS) [] (p_ 4 5 (.j ⟨[.val 8 y0],[0,1,7]⟩ .e)) []
def nJ(a:Z Int)(b:Int):Y Bool:=(pS a b).bind λc=>some (decide (0<=c))
def wA:=kf func559 [t11,t0] q1 (u2 nJ) [] .e [zk]
noncomputable def DM:SA U:=bc (aT prog 53 [] f531) (.r (.r (.r (.l (.r (.l (.j ⟨[.val 29 y0,.box 1 1 (Ty.st .tW) []],[1,4,6,27,28]⟩ .e)))))))
def yf(rec:(ar×Int×Unit)->Y (lG×Bool×Unit))(a:ar)(d:Int):Y (lG×Bool×Unit):=(nJ a.aY d).bind λe=>bif e then some ((lG.mk a.aV (aC .i64 (a.aY.length:Int) (a.bC.length:Int))),true,())else aE (λ(b:Int×lG×Unit)=>bif decide (b.1<(a.bC.length:Int))then(idx a.bC b.1).bind λf=>(rec ((af f),d,())).bind λc=>bif c.2.1 then oR (some ((lG.mk (xr .i64 a.aV c.1.NP) (xr .i64 (aC .i64 (a.aY.length:Int) (a.bC.length:Int)) c.1.NR)),true,()))else some (inl ((aC .i64 b.1 1),b.2.1,()))else oR (some ((lG.mk 0 0),false,()))) (0,(lG.mk 0 0),())
noncomputable def FB:Nat->(ar×Int×Unit)->Y (lG×Bool×Unit):=gO (λrec a=>yf rec a.1 a.2.1)
def xU(a:ar)(b:Int):Y (lG×Bool×Unit):=FB (SizeOf.sizeOf a+SizeOf.sizeOf b+1) (a,b,())
noncomputable def E6:KS U prog:=⟨.fn 531 [t4,t0] (.many [(Ty.st .tW),y1]) λa=>xU a.1 a.2.1,Bk (K:=K) (A_s:=[t4,t0]) (r:= .many [(Ty.st .tW),y1]) (B:=λrec a=>yf rec a.1 a.2.1) DM 53 [.cell 4 (some 2),.tmp 5] [wA] (fk f531 [] func531) (hF:=λa=>⟨_,rfl⟩)⟩
noncomputable def ub(a:Int)(b:Int)(c:Int)(d:Int):Y Int:=some (bB .u32 (iI .u64 (fS .u64 (xr .u64 (fS .u64 (xr .u64 (fS .u64 (aC .u64 (fS .u64 (fS .u64 (fS .u64 (dJ .u64 (bB .u64 a) 56) (dJ .u64 (bB .u64 b) 24)) (dJ .u64 (bB .u64 c) 8)) (bB .u64 d)) 11400714819323198485) (iI .u64 (aC .u64 (fS .u64 (fS .u64 (fS .u64 (dJ .u64 (bB .u64 a) 56) (dJ .u64 (bB .u64 b) 24)) (dJ .u64 (bB .u64 c) 8)) (bB .u64 d)) 11400714819323198485) 30)) 13787848793156543929) (iI .u64 (xr .u64 (fS .u64 (aC .u64 (fS .u64 (fS .u64 (fS .u64 (dJ .u64 (bB .u64 a) 56) (dJ .u64 (bB .u64 b) 24)) (dJ .u64 (bB .u64 c) 8)) (bB .u64 d)) 11400714819323198485) (iI .u64 (aC .u64 (fS .u64 (fS .u64 (fS .u64 (dJ .u64 (bB .u64 a) 56) (dJ .u64 (bB .u64 b) 24)) (dJ .u64 (bB .u64 c) 8)) (bB .u64 d)) 11400714819323198485) 30)) 13787848793156543929) 27)) 10723151780598845931) (iI .u64 (xr .u64 (fS .u64 (xr .u64 (fS .u64 (aC .u64 (fS .u64 (fS .u64 (fS .u64 (dJ .u64 (bB .u64 a) 56) (dJ .u64 (bB .u64 b) 24)) (dJ .u64 (bB .u64 c) 8)) (bB .u64 d)) 11400714819323198485) (iI .u64 (aC .u64 (fS .u64 (fS .u64 (fS .u64 (dJ .u64 (bB .u64 a) 56) (dJ .u64 (bB .u64 b) 24)) (dJ .u64 (bB .u64 c) 8)) (bB .u64 d)) 11400714819323198485) 30)) 13787848793156543929) (iI .u64 (xr .u64 (fS .u64 (aC .u64 (fS .u64 (fS .u64 (fS .u64 (dJ .u64 (bB .u64 a) 56) (dJ .u64 (bB .u64 b) 24)) (dJ .u64 (bB .u64 c) 8)) (bB .u64 d)) 11400714819323198485) (iI .u64 (aC .u64 (fS .u64 (fS .u64 (fS .u64 (dJ .u64 (bB .u64 a) 56) (dJ .u64 (bB .u64 b) 24)) (dJ .u64 (bB .u64 c) 8)) (bB .u64 d)) 11400714819323198485) 30)) 13787848793156543929) 27)) 10723151780598845931) 31)) 32))
def Aa:=kf func501 [t0,t0,t0,t0] (.one (Ty.i .u32)) (u4 ub) [] .e []
def tk(d:ar)(e:Int)(f:Int)(g:Int)(a:Int):Y Bool:=oO (decide (a=e)) ((xU (af d) a).bind λb=>aX (λ(h:Bool×Unit)=>some h.1) λc=>bif b.2.1 then(ub 1 f g a).bind λi=>c ((decide ((xr .u64 (bB .u64 i) (bB .u64 b.1.NR))<(dJ .u64 (bB .u64 b.1.NP) 32))),())else c (false,()))
def B2:=kf func500 [t4,t0,t0,t0,t0] q1 (u5 tk) [] (p_ 3 7 (.j ⟨[.val 10 y1],[]⟩ .e)) [E6,Aa]
def xV(h:ar)(c:Int)(d:Int)(e:Int):Y Int:=aE (λ(a:Int×Int×Int×Unit)=>bif decide (a.2.2.1<10)then aX (λ(f:Int×Int×Unit)=>some (inl (f.1,f.2.1,(aC .i64 a.2.2.1 1),()))) λb=>(tk (af h) c d e a.2.2.1).bind λi=>bif (!i)then b (a.1,a.2.1,())else(ub 2 d e a.2.2.1).bind λg=>bif decide (a.2.1<=g)then b (a.2.2.1,g,())else b (a.1,a.2.1,())else oR (some a.1)) (c,0,0,())
def E7:=kf func471 [t4,t0,t0,t0] q0 (u4 xV) [] (p_ 5 11 (.j ⟨[.val 9 y0,.val 10 (Ty.i .u32),.val 14 y0],[1,2,3,4]⟩ (p_ 3 6 (.j ⟨[.val 9 y0,.val 10 (Ty.i .u32)],[1,2,3,4,14]⟩ .e)))) [B2,Aa]
def vZ(b:ar)(c:Int)(d:Int)(e:Int):Y (Int×Int×Unit):=(yR (af b) c d e).bind λf=>bif (!decide (f=0))then some (0,f,())else aE (λ(a:Int×Int×Unit)=>bif decide (a.2.1<e)then(xV (af b) c d (aC .i64 a.2.1 1)).bind λg=>if g<0 then none else some (inl ((vB .i64 a.1 (dJ .i64 1 g)),(aC .i64 a.2.1 1),()))else oR (some (a.1,0,()))) (0,0,())
def D7:=kf func438 [t4,t0,t0,t0] (.many [y0,y0]) (u4 vZ) [] (p_ 6 23 (.j ⟨[.val 11 y0,.val 22 y0],[1,2,4,21]⟩ .e)) [Gr,E7]
def sJ(c:Int):Y (Z Int):=aE (λ(a:Int×Z Int×Unit)=>bif decide (a.1<10)then aX (λ(d:(Z Int)×Unit)=>some (inl ((aC .i64 a.1 1),d.1,()))) λb=>(eD c a.1).bind λe=>bif e then bif bp 8 (a.2.1.length+List.length [a.1])then b ((a.2.1++[a.1]),())else none else b (a.2.1,())else oR (some a.2.1)) (0,[],())
def yw:=kf func439 [t0] (.one y11) (u1 sJ) [] (p_ 5 11 (.ps (.own 3 3 1 y0) (.j ⟨[.val 5 y0,.own 3 3 2 false 3 1 y0],[0]⟩ (p_ 3 6 (.j ⟨[.own 3 3 3 false 3 1 y0],[0,5]⟩ .e))))) [fO]
def eJ(b:Z C)(c:C):Y (Int×Bool×Unit):=aE (λ(a:Int×Int×Unit)=>bif decide (a.1<a.2.1)then(idx b (bB .i64 (iI .u64 (bB .u64 (aC .i64 a.1 a.2.1)) 1))).bind λd=>(eA d c).bind λe=>bif decide (e<0)then some (inl ((aC .i64 (bB .i64 (iI .u64 (bB .u64 (aC .i64 a.1 a.2.1)) 1)) 1),a.2.1,()))else some (inl (a.1,(bB .i64 (iI .u64 (bB .u64 (aC .i64 a.1 a.2.1)) 1)),()))else oR ((aO (decide (a.1<(b.length:Int))) ((idx b a.1).bind λf=>(eA f c).bind λg=>some (decide (g=0)))).bind λh=>some (a.1,h,()))) (0,(b.length:Int),())
def iO:=kf func443 [t13,t2,.aQ 327 []] (.many [y0,y1]) (λa=>eJ a.1 a.2.1) [] (p_ 5 7 (.j ⟨[.val 9 y0,.val 10 y0],[0,1,2,8]⟩ .e)) [jf]
noncomputable def lC(s:Z C)(a:Int)(b:Z C):Y (Z C):=CM 16 s a b
noncomputable def sS:KS U prog:=⟨.cw 444 9 1 y2 [t0,t13] λs a=>lC s a.1 a.2.1,JD JF.ways JF.enters (λx=>K.len (y2) x)⟩
def jK(a:Z C)(b:C):Y (Z C):=(eJ a b).bind λc=>(oO c.2.1 (some (decide (40<=(a.length:Int))))).bind λd=>bif d then some a else(bl a).bind λe=>(lC e c.1 [b]).bind some
def xy:=kf func406 [t13,t2] (.one y13) (u2 jK) [] .e [iO,dX,sS]
def iv(s:Z C):Y (Unit×Z C):=yY (λx y=>eA x y) s
noncomputable def oe:KS U prog:=⟨.rw 472 9 1 y2 [.aQ 327 []] (.many []) λs a=>iv s,Lt (T:=y2) (F:=λa=>eA a.1 a.2.1) xc.enters xc.none jf.s (λ_=>rfl) xc.Dp (λ_=>rfl)⟩
noncomputable def rA:SA U:=bc (aT prog 61 [] f473) (.r (.r (.l (.r (.l (.j ⟨[.val 3 y0,.own 0 0 0 true 9 1 y2],[]⟩ (.l (.r (.l (.l (.r (.l (.r (.b (.r (.l (.j ⟨[.val 3 y0,.val 5 y0,.own 0 0 0 true 9 1 y2],[4]⟩ (.l (.r (.j ⟨[.val 3 y0,.own 0 0 0 true 9 1 y2],[4,5]⟩ .e)))))) (.r (.l (.g [(4,.ps (.cut 2))])))))))))))))))))
noncomputable def gE(s:Z C):Y (Z C):=bif decide ((s.length:Int)<2)then some s else aE (λ(b:Int×Z C×Unit)=>bif decide (b.1<(b.2.1.length:Int))then(idx b.2.1 b.1).bind λn=>(b.2.1[(toNat b.1)]?).bind λh=>(idx b.2.1 (iH .i64 b.1 1)).bind λo=>(b.2.1[(toNat (iH .i64 b.1 1))]?).bind λi=>bif decide (h=i)then bif eR b.1 ((b.2.1.length):Int) (b.2.1.length)then aE (λ(a:Int×Int×Z C×Unit)=>bif decide (a.2.1<((List.length ((a.2.2.1.drop (toNat b.1)).take (toNat ((b.2.1.length):Int) - toNat b.1)):Nat):Int))then aX (λ(f:Int×Z C×Unit)=>some (inl (f.1,(aC .i64 a.2.1 1),f.2.1,()))) λg=>(idx ((a.2.2.1.drop (toNat b.1)).take (toNat ((b.2.1.length):Int) - toNat b.1)) a.2.1).bind λp=>(a.2.2.1[((toNat b.1)+toNat a.2.1)]?).bind λc=>(idx ((a.2.2.1.drop (toNat b.1)).take (toNat ((b.2.1.length):Int) - toNat b.1)) (iH .i64 a.2.1 1)).bind λj=>(a.2.2.1[((toNat b.1)+toNat (iH .i64 a.2.1 1))]?).bind λd=>bif (!decide (c=d))then(idx ((a.2.2.1.drop (toNat b.1)).take (toNat ((b.2.1.length):Int) - toNat b.1)) a.2.1).bind λk=>(a.2.2.1[((toNat b.1)+toNat a.2.1)]?).bind λe=>(idx a.2.2.1 a.1).bind λl=>(a.2.2.1[(toNat a.1)]?).bind λm=>g ((aC .i64 a.1 1),(a.2.2.1.set (toNat a.1) e),())else g (a.1,a.2.2.1,())else oR (bif eR a.1 ((a.2.2.1.length):Int) (a.2.2.1.length)then bif eR 0 a.1 (List.length (a.2.2.1.take (toNat a.1)++replicate (toNat ((a.2.2.1.length):Int) - toNat a.1) bE++a.2.2.1.drop ((toNat a.1)+(toNat ((a.2.2.1.length):Int) - toNat a.1))))then oR (some ((a.2.2.1.take (toNat a.1)++replicate (toNat ((a.2.2.1.length):Int) - toNat a.1) bE++a.2.2.1.drop ((toNat a.1)+(toNat ((a.2.2.1.length):Int) - toNat a.1))).take (toNat a.1 - toNat 0)))else none else none)) (b.1,1,b.2.1,())else none else some (inl ((aC .i64 b.1 1),b.2.1,()))else oR (some b.2.1)) (1,s,())
noncomputable def kO:KS U prog:=⟨.cw 473 9 1 y2 [] λs a=>gE s,J8 (K:=K) rA 61 [.tmp 2] [] (fk f473 [] func473)⟩
def qH(c:Z aA):Y (Z C):=aE (λ(a:Int×Z C×Unit)=>bif decide (a.1<(c.length:Int))then(idx c a.1).bind λb=>bif bp 16 (a.2.1.length+b.du.length)then bif bp 16 (List.length (a.2.1++b.du)+b.bL.length)then some (inl ((aC .i64 a.1 1),((a.2.1++b.du)++b.bL),()))else none else none else oR ((iv a.2.1).bind λd=>(gE d.2).bind some)) (0,[],())
def xz:=kf func440 [.ty y27] (.one y13) (u1 qH) [] (p_ 5 11 (.ps (.own 3 9 1 y2) (.j ⟨[.val 8 y0,.own 3 5 2 false 9 1 y2],[6,7]⟩ .e))) [oe,kO]
def vd(c:aD):Y (Z C):=(vZ (af c.ae) c.aF c.bt c.Round).bind λo=>(sJ o.1).bind λk=>aE (λ(d:(Z C)×Int×Unit)=>bif decide (d.2.1<(k.length:Int))then aX (λ(p:(Z C)×Unit)=>some (inl (p.1,(aC .i64 d.2.1 1),()))) λl=>(idx k d.2.1).bind λm=>bif decide (m=c.aF)then aX (λ(q:(Z C)×Unit)=>l (q.1,())) λn=>bif (!decide (c.sC=bE))then(jK d.1 c.sC).bind λr=>n (r,())else n (d.1,())else aE (λ(a:(Z C)×Int×Unit)=>bif decide (a.2.1<(c.bn.length:Int))then aX (λ(h:(Z C)×Unit)=>some (inl (h.1,(aC .i64 a.2.1 1),()))) λf=>(idx c.bn a.2.1).bind λe=>bif (!decide (e.aF=m))then f (a.1,())else(qH [{e with ae:=(af e.ae)}]).bind λg=>aE (λ(b:(Z C)×Int×Unit)=>bif decide (b.2.1<(g.length:Int))then(idx g b.2.1).bind λi=>(jK b.1 i).bind λj=>some (inl (j,(aC .i64 b.2.1 1),()))else oR (f (b.1,()))) (a.1,0,())else oR (l (a.1,()))) (d.1,0,())else oR (some d.1)) (c.du,0,())
def CD:=kf func403 [t8] (.one y13) (u1 vd) [] (p_ 6 23 (.j ⟨[.val 3 y13,.val 29 y0],[1,27,28]⟩ (p_ 3 6 (.j ⟨[.val 3 y13],[1,27,28,29]⟩ (p_ 3 4 (.b (p_ 2 1 (.j ⟨[.val 3 y13],[1,27,28,29]⟩ .e)) (p_ 2 1 (.j ⟨[.val 3 y13,.val 47 y0],[1,7,27,28,29,45,46]⟩ (p_ 3 6 (.j ⟨[.val 3 y13],[1,7,27,28,29,45,46,47]⟩ (p_ 6 28 (.j ⟨[.val 3 y13,.val 59 y0],[1,7,27,28,29,45,46,47,57,58]⟩ .e)))))))))))) [D7,yw,xy,xz]
noncomputable def qI(a:Int):Y Bool:=(aO (decide (0<=a)) (some (decide (a<10)))).bind some
def xB:=kf func476 [t0] q1 (u1 qI) [] .e []
noncomputable def AA(a:lV):Y Bool:=(aO (decide (0<=a.Bx)) (some (decide (a.Bx<8)))).bind λb=>(aO b (some (decide (0<=a.Value)))).bind λc=>(aO c (some (decide (a.Value<=15)))).bind some
def Hz:=kf func542 [.ty (Ty.st .Claim)] q1 (u1 AA) [] .e []
def yb(a:lV)(b:lV):Y Int:=(bX a.Bx b.Bx).bind λc=>(bX a.Value b.Value).bind λd=>(gG [c,d]).bind some
def Fc:=kf func543 [.ty (Ty.st .Claim),.ty (Ty.st .Claim)] q0 (u2 yb) [] .e [fm,oo]
def uc(b:Z lV):Y Bool:=aE (λ(a:Int×Unit)=>bif decide (a.1<(b.length:Int))then(idx b a.1).bind λd=>aX (λ(e:Bool×Unit)=>bif e.1 then oR (some false)else some (inl ((aC .i64 a.1 1),()))) λc=>(AA d).bind λf=>bif (!f)then c (true,())else bif decide (0<a.1)then(idx b (iH .i64 a.1 1)).bind λg=>(yb g d).bind λh=>c ((decide (0<=h)),())else c (false,())else oR (some true)) (0,())
def HA:=kf func504 [.ty (Ty.sl (Ty.st .Claim))] q1 (u1 uc) [] (p_ 4 5 (.j ⟨[.val 7 y0],[0,5,6]⟩ (p_ 6 38 (.j ⟨[.val 28 y1],[0,5,6,7]⟩ .e)))) [Hz,Fc]
def wa(a:iL):Y Bool:=(qI a.aF).bind λb=>(aO b (some (decide (1<=a.c6)))).bind λc=>(aO c ((bF (af a.ae)).bind λd=>some (decide (d=0)))).bind λe=>(aO e ((uc a.du).bind some)).bind λf=>(aO f ((uc a.bL).bind some)).bind some
def D8:=kf func474 [.ty (Ty.st .Message)] q1 (u1 wa) [] .e [xB,bM,HA]
noncomputable def BQ:SA U:=bc (aT prog 28 [] f475) (.r (.r (.l (.r (.l (.ps (.rS 3 2 44 3 y4) (.j ⟨[.val 15 y0,.box 8 1 y4 [(1,6,2),(2,14,2)],.bQ 6 2 false 3 1 y0,.bQ 14 2 false 44 3 y4],[2,3,13,14]⟩ .e)))))))
noncomputable def vk(rec:(ar×Unit)->Y ar)(b:ar):Y ar:=bif bp 8 (b.aY.length)then aE (λ(a:Int×ar×Z Int×Z ar×Unit)=>bif decide (a.1<(b.bC.length:Int))then(idx b.bC a.1).bind λd=>(rec ((af d),())).bind λc=>bif bp 56 (a.2.2.2.1.length+List.length [(af c)])then some (inl ((aC .i64 a.1 1),(ar.mk a.2.1.aV [] []),a.2.2.1,(a.2.2.2.1++[(af c)]),()))else none else oR (some (ar.mk a.2.1.aV a.2.2.1 a.2.2.2.1))) (0,(ar.mk b.aV [] []),b.aY,[],())else none
noncomputable def De:Nat->(ar×Unit)->Y ar:=gO (λrec a=>vk rec a.1)
def oJ(a:ar):Y ar:=De (SizeOf.sizeOf a+1) (a,())
noncomputable def CG:KS U prog:=⟨.fn 475 [t4] (.one y4) λa=>oJ a.1,Bk (K:=K) (A_s:=[t4]) (r:= .one y4) (B:=λrec a=>vk rec a.1) BQ 28 [.cell 2 (some 3)] [] (fk f475 [] func475) (hF:=λa=>⟨_,rfl⟩)⟩
def xX(c:Int)(j:ar)(k:Z iL):Y bq:=bif decide ((10:Int)<=10)&&decide ((0:Int)<=10)&&bp 64 (toNat 10)then aE (λ(a:Int×bq×Z bW×Unit)=>bif decide (a.1<(k.length:Int))then aX (λ(m:bq×Z bW×Unit)=>some (inl ((aC .i64 a.1 1),zz9,m.2.1,()))) λl=>(idx k a.1).bind λb=>(aO (!decide (b.aF=c)) ((wa {b with ae:=(af b.ae)}).bind some)).bind λn=>bif n then(oJ (af b.ae)).bind λo=>(idx a.2.2.1 b.aF).bind λr=>(a.2.2.1[(toNat b.aF)]?).bind λs=>l (zz9,(a.2.2.1.set (toNat b.aF) (bW.mk true (af o))),())else l (zz9,a.2.2.1,())else oR (aX (λ(e:bq×Z bW×Unit)=>some (bq.mk e.2.1)) λd=>(qI c).bind λf=>(aO f ((bF (af j)).bind λg=>some (decide (g=0)))).bind λh=>bif h then(oJ (af j)).bind λi=>(idx a.2.2.1 c).bind λp=>(a.2.2.1[(toNat c)]?).bind λq=>d (zz9,(a.2.2.1.set (toNat c) (bW.mk true (af i))),())else d (zz9,a.2.2.1,()))) (0,zz9,(replicate (toNat 10) zz13),())else none
def E8:=kf func441 [t0,t4,.ty (Ty.sl (Ty.st .Message))] (.one y12) (u3 xX) [] (p_ 2 3 (.b (p_ 2 1 (.j ⟨[.val 14 y0,.box 4 1 y12 [(0,2,2)],.bQ 2 2 false 65 4 y21],[0,4,6,7,12,13]⟩ (p_ 3 6 (.j ⟨[.box 4 1 y12 [(0,2,3)],.bQ 2 3 false 65 4 y21],[0,4,6,7,12,13,14]⟩ .e)))) (.j ⟨[.box 4 1 y12 [(0,2,3)],.bQ 2 3 false 65 4 y21],[6,7]⟩ .e))) [D8,CG,xB,bM]
def vS(c:aD):Y bq:=aE (λ(a:Int×Z iL×Unit)=>bif decide (a.1<(c.bn.length:Int))then(idx c.bn a.1).bind λb=>bif bp 120 (a.2.1.length+List.length [(iL.mk b.aF b.c6 (af b.ae) [] [])])then some (inl ((aC .i64 a.1 1),(a.2.1++[(iL.mk b.aF b.c6 (af b.ae) [] [])]),()))else none else oR ((xX c.aF (af c.ae) a.2.1).bind some)) (0,[],())
def DW:=kf func404 [t8] (.one y12) (u1 vS) [] (p_ 2 3 (.b (p_ 2 1 (.ps (.own 3 343 7 (Ty.st .Message)) (.j ⟨[.val 9 y0,.own 3 7 2 false 343 7 (Ty.st .Message)],[1,2,7,8]⟩ .e))) (.l (.g [(0,.ps (.Al 3))])))) [E8]
noncomputable def kG:SA U:=bc (aT prog 8 [5] f337) (.r (.l (.r (.l (.l (.g [(1,.ps (.own 2 52 7 y16))]))))))
noncomputable def fH(a:Z aA):Y (Z aA):=bif List.isEmpty a then both (some []) (bif bp 120 (List.length ([]:Z aA)+a.length)then some (([]:Z aA)++a)else none)else bif bp 120 (List.length ([]:Z aA)+a.length)then some (([]:Z aA)++a)else none
def cj(a:Z aA):Y (Z aA):=bif bp 120 (List.length ([]:Z aA)+a.length)then some (([]:Z aA)++a)else none
def lu(a0:Z aA):fH a0=cj a0:=match a0 with|[]=>uT _|_::_=>rfl
noncomputable def dO:KS U prog:=⟨.fw 337 [.ty y27] 52 7 y16 λa=>cj a.1,CQ (K:=K) kG 8 [.tmp 2] [] (fk f337 [5] func337) (hF:=qa4 (b:=λa:((Z aA)×Unit)=>fH a.1) d_ (funext λa=>lu a.1))⟩
noncomputable def mQ(a:aD):Y aA:=some {a with ae:=(af a.ae)}
def qv:=kf func348 [t8] (.one y16) (u1 mQ) [] .e []
def nv(c:Z aA)(d:C):Y (Int×Int×Unit):=aE (λ(a:Int×Int×Int×Unit)=>bif decide (a.2.2.1<(c.length:Int))then aX (λ(e:Int×Int×Unit)=>some (inl (e.1,e.2.1,(aC .i64 a.2.2.1 1),()))) λf=>(idx c a.2.2.1).bind λb=>aX (λ(g:Int×Unit)=>(jL b.bL d).bind λi=>bif i then if b.aF<0 then none else f (g.1,(vB .i64 a.2.1 (dJ .i64 1 b.aF)),())else f (g.1,a.2.1,())) λh=>(jL b.du d).bind λj=>bif j then if b.aF<0 then none else h ((vB .i64 a.1 (dJ .i64 1 b.aF)),())else h (a.1,())else oR (some (a.1,a.2.1,()))) (0,0,0,())
def sY:=kf func407 [.ty y27,t2] (.many [y0,y0]) (u2 nv) [] (p_ 4 5 (.j ⟨[.val 4 y0,.val 5 y0,.val 10 y0],[1,8,9]⟩ (p_ 3 6 (.j ⟨[.val 4 y0,.val 5 y0],[1,8,9,10]⟩ (p_ 3 4 (.j ⟨[.val 4 y0],[1,5,7,8,9,10]⟩ .e)))))) [qw]
noncomputable def jO(b:bq):Y Int:=aE (λ(a:Int×Int×Unit)=>bif decide (a.2.1<(b.dY.length:Int))then aX (λ(d:Int×Unit)=>some (inl (d.1,(aC .i64 a.2.1 1),()))) λc=>(idx b.dY a.2.1).bind λe=>(aO e.qM (some (decide (a.2.1<10)))).bind λf=>bif f then if a.2.1<0 then none else c ((vB .i64 a.1 (dJ .i64 1 a.2.1)),())else c (a.1,())else oR (some a.1)) (0,0,())
def om:=kf func454 [t12] q0 (u1 jO) [] (p_ 5 11 (.j ⟨[.val 3 y0,.val 9 y0],[7,8]⟩ (p_ 3 6 (.j ⟨[.val 3 y0],[7,8,9]⟩ .e)))) []
noncomputable def yZ:SA U:=bc (aT prog 43 [] f505) (.r (.r (.r (.b (.r (.l (.j ⟨[.val 5 y0,.val 16 y0],[1,2,14,15]⟩ (.l (.r (.r (.j ⟨[.val 5 y0],[1,2,14,15,16]⟩ .e))))))) (.l (.r (.l (.j ⟨[.val 5 y0,.val 29 y0],[1,2,27,28]⟩ (.l (.r (.r (.j ⟨[.val 5 y0],[1,2,27,28,29]⟩ .e))))))))))))
def ru(rec:(ar×Int×Unit)->Y Bool)(c:ar)(d:Int):Y Bool:=(fA d).bind λi=>bif (!i)then some false else aE (λ(a:Int×Int×Unit)=>bif decide (a.2.1<(c.aY.length:Int))then aX (λ(j:Int×Unit)=>some (inl (j.1,(aC .i64 a.2.1 1),()))) λg=>(idx c.aY a.2.1).bind λk=>(eD d k).bind λl=>bif l then g ((aC .i64 a.1 1),())else g (a.1,())else oR (aE (λ(b:Int×Int×Unit)=>bif decide (b.2.1<(c.bC.length:Int))then aX (λ(m:Int×Unit)=>some (inl (m.1,(aC .i64 b.2.1 1),()))) λh=>(idx c.bC b.2.1).bind λe=>(rec ((af e),d,())).bind λf=>bif f then h ((aC .i64 b.1 1),())else h (b.1,())else oR (some (decide (c.aV<=b.1)))) (a.1,0,()))) (0,0,())
noncomputable def As:Nat->(ar×Int×Unit)->Y Bool:=gO (λrec a=>ru rec a.1 a.2.1)
def lY(a:ar)(b:Int):Y Bool:=As (SizeOf.sizeOf a+SizeOf.sizeOf b+1) (a,b,())
noncomputable def qT:KS U prog:=⟨.fn 505 [t4,t0] q1 λa=>lY a.1 a.2.1,Bk (K:=K) (A_s:=[t4,t0]) (r:= .one y1) (B:=λrec a=>ru rec a.1 a.2.1) yZ 43 [.tmp 4] [iB,fO] (fk f505 [] func505) (hF:=λa=>⟨_,rfl⟩)⟩
def pF(b:bq)(a:Int)(c:Int):Y Bool:=(fA c).bind λd=>(oO (!d) ((jO b).bind λe=>(eD e a).bind λf=>some (!f))).bind λg=>bif g then some false else(idx b.dY a).bind λh=>if a<0 then none else(lY (af h.ae) (vB .i64 (Ln .i64 1023 c) (dJ .i64 1 a))).bind λi=>some (!i)
def vI:=kf func477 [t12,t0,t0] q1 (u3 pF) [] .e [iB,om,fO,qT]
def wi(a:bq)(b:Int)(c:Int):Y Bool:=(idx a.dY b).bind λd=>(lY (af d.ae) c).bind some
def Ee:=kf func492 [t12,t0,t0] q1 (u3 wi) [] .e [qT]
def wh(e:bq)(b:Int):Y (Int×Bool×Unit):=(sJ b).bind λc=>aE (λ(a:Int×Unit)=>bif decide (a.1<(c.length:Int))then(idx c a.1).bind λd=>(wi e d b).bind λf=>bif (!f)then oR (some (d,true,()))else some (inl ((aC .i64 a.1 1),()))else oR (some (0,false,()))) (0,())
def Ed:=kf func455 [t12,t0] (.many [y0,y1]) (u2 wh) [] (p_ 4 5 (.j ⟨[.val 11 y0],[1,2,9,10]⟩ .e)) [yw,Ee]
def tl(c:bq)(d:Int):Y (Int×Z Int×Unit):=(fA d).bind λe=>bif (!e)then some (0,[],())else(jO c).bind λf=>aE (λ(a:Int×Z Int×Unit)=>(wh c a.1).bind λb=>bif (!b.2.1)then oR (some (a.1,a.2.1,()))else bif bp 8 (a.2.1.length+List.length [b.1])then if b.1<0 then none else some (inl ((Ln .i64 a.1 (dJ .i64 1 b.1)),(a.2.1++[b.1]),()))else none) ((MO .i64 d f),[],())
def B3:=kf func419 [t12,t0] (.many [y0,y11]) (u2 tl) [] (p_ 5 15 (.ps (.own 6 3 1 y0) (.j ⟨[.val 1 y0,.own 6 12 2 false 3 1 y0],[2]⟩ .e))) [iB,om,Ed]
def k7(a:bq)(b:Int):Y Int:=(tl a b).bind λc=>some c.1
def oq:=kf func384 [t12,t0] q0 (u2 k7) [] .e [B3]
def jU(b:bq)(c:Int)(d:Int)(a:Int):Y Bool:=(fA d).bind λe=>(oO (!e) ((fA a).bind λf=>some (!f))).bind λg=>bif g then some false else(pF b c a).bind λh=>(oO h ((k7 b (vB .i64 d a)).bind λi=>(eD i c).bind some)).bind some
def ni:=kf func442 [t12,t0,t0,t0] q1 (u4 jU) [] .e [iB,vI,oq,fO]
def pB(b:aD)(i:bq):Y (C×Bool×Unit):=(cj b.bn).bind λc=>(mQ (eT0 b)).bind λa=>bif bp 120 (c.length+List.length [{a with ae:=(af a.ae)}])then(qH (c++[{a with ae:=(af a.ae)}])).bind λg=>aE (λ(d:Int×Unit)=>bif decide (d.1<(g.length:Int))then(idx g d.1).bind λe=>(nv (c++[{a with ae:=(af a.ae)}]) e).bind λh=>(jL b.bL e).bind λj=>(aO (!j) (some (decide ((b.bL.length:Int)<40)))).bind λk=>(aO k ((jU i b.aF h.1 h.2.1).bind some)).bind λf=>bif f then oR (some (e,true,()))else some (inl ((aC .i64 d.1 1),()))else oR (some (bE,false,()))) (0,())else none
def DX:=kf func405 [t8,t12] (.many [y2,y1]) (u2 pB) [] (p_ 3 3 (.b (.g [(0,.ps (.Al 6))]) (.l (.j ⟨[.val 21 y0],[2,3,6,19,20]⟩ .e)))) [dO,qv,xz,sY,qw,ni]
def jk(a:bq)(b:Int)(c:Int):Y Bool:=(k7 a c).bind λd=>(eD d b).bind some
def mD:=kf func408 [t12,t0,t0] q1 (u3 jk) [] .e [oq,fO]
def mP(c:aD):Y aD:=aX (λ(g:aD×Unit)=>(vS (eT0 g.1)).bind λh=>(pB (eT0 g.1) h).bind λn=>aE (λ(b:C×Bool×aD×Unit)=>bif b.2.1 then(jK b.2.2.1.bL b.1).bind λo=>(pB {b.2.2.1 with ae:=(af b.2.2.1.ae),bL:=o} h).bind λp=>some (inl (p.1,p.2.1,{b.2.2.1 with ae:=(af b.2.2.1.ae),bL:=o},()))else oR ((cj b.2.2.1.bn).bind λq=>(mQ (eT0 b.2.2.1)).bind λf=>bif bp 120 (q.length+List.length [{f with ae:=(af f.ae)}])then aE (λ(a:Int×aD×Unit)=>bif decide (a.1<(b.2.2.1.bL.length:Int))then aX (λ(i:aD×Unit)=>some (inl ((aC .i64 a.1 1),(eT0 i.1),()))) λd=>(idx b.2.2.1.bL a.1).bind λe=>(nv (q++[{f with ae:=(af f.ae)}]) e).bind λj=>(jk h a.2.1.aF j.2.1).bind λk=>bif k then(jK a.2.1.dm e).bind λl=>d ({a.2.1 with ae:=(af a.2.1.ae),dm:=l},())else d ((eT0 a.2.1),())else oR (some (eT0 a.2.1))) (0,(eT0 b.2.2.1),())else none)) (n.1,n.2.1,(eT0 g.1),())) λr=>bif decide ((c.dm.length:Int)=0)then(vd (eT0 c)).bind λm=>r ({c with ae:=(af c.ae),du:=m},())else r ((eT0 c),())
def si:=kf func358 [t8] (.one y8) (u1 mP) [] (.r (.j ⟨[.box 0 1 y8 []],[1,2]⟩ (p_ 2 3 (.b (p_ 2 1 (.j ⟨[.val 4 y2,.val 5 y1,.box 0 1 y8 []],[1,2,3]⟩ .e)) (p_ 4 5 (.j ⟨[.val 48 y0,.box 0 1 y8 []],[1,2,3,6,46,47]⟩ (p_ 3 6 (.j ⟨[.box 0 1 y8 []],[1,2,3,6,46,47,48]⟩ .e)))))))) [CD,DW,DX,xy,dO,qv,sY,mD]
noncomputable def BP:SA U:=bc (aT prog 28 [] f385) (.r (.r (.l (.r (.l (.ps (.rS 3 2 44 3 y4) (.j ⟨[.val 15 y0,.box 8 1 y4 [(2,14,2)],.bQ 14 2 false 44 3 y4],[2,3,13,14]⟩ .e)))))))
def vj(rec:(ar×Unit)->Y ar)(b:ar):Y ar:=(bz b.aY).bind λd=>aE (λ(a:Int×ar×Z ar×Unit)=>bif decide (a.1<(b.bC.length:Int))then(idx b.bC a.1).bind λe=>(rec ((af e),())).bind λc=>bif bp 56 (a.2.2.1.length+List.length [(af c)])then some (inl ((aC .i64 a.1 1),(ar.mk a.2.1.aV a.2.1.aY []),(a.2.2.1++[(af c)]),()))else none else oR (some (ar.mk a.2.1.aV a.2.1.aY a.2.2.1))) (0,(ar.mk b.aV d []),[],())
noncomputable def Dd:Nat->(ar×Unit)->Y ar:=gO (λrec a=>vj rec a.1)
def oF(a:ar):Y ar:=Dd (SizeOf.sizeOf a+1) (a,())
noncomputable def uD:KS U prog:=⟨.fn 385 [t4] (.one y4) λa=>oF a.1,Bk (K:=K) (A_s:=[t4]) (r:= .one y4) (B:=λrec a=>vj rec a.1) BP 28 [.cell 2 (some 3)] [lp] (fk f385 [] func385) (hF:=λa=>⟨_,rfl⟩)⟩
def mR(a:aA):Y aA:=(oF (af a.ae)).bind λb=>(bl a.du).bind λc=>(bl a.bL).bind λd=>some (aA.mk a.aF a.c6 (af b) c d)
def sj:=kf func347 [.ty y16] (.one y16) (u1 mR) [] .e [uD,dX]
def kV(b:aD):Y aD:=(oF (af b.ae)).bind λe=>(bl b.du).bind λf=>(bl b.bL).bind λg=>(bl b.dm).bind λh=>aE (λ(a:Int×aD×Z C×Z C×Z C×Z aA×Unit)=>bif decide (a.1<(b.bn.length:Int))then(idx b.bn a.1).bind λd=>(mR {d with ae:=(af d.ae)}).bind λc=>bif bp 120 (a.2.2.2.2.2.1.length+List.length [{c with ae:=(af c.ae)}])then some (inl ((aC .i64 a.1 1),{a.2.1 with ae:=(af a.2.1.ae),du:=[],bL:=[],dm:=[],bn:=[]},a.2.2.1,a.2.2.2.1,a.2.2.2.2.1,(a.2.2.2.2.2.1++[{c with ae:=(af c.ae)}]),()))else none else oR (some {a.2.1 with ae:=(af a.2.1.ae),du:=a.2.2.1,bL:=a.2.2.2.1,dm:=a.2.2.2.2.1,bn:=a.2.2.2.2.2.1})) (0,{b with ae:=(af e),du:=[],bL:=[],dm:=[],bn:=[]},f,g,h,[],())
def oh:=kf func357 [t8] (.one y8) (u1 kV) [] (p_ 7 47 (.ps (.rS 1 11 52 7 y16) (.j ⟨[.val 27 y0,.box 0 1 y8 [(8,7,2),(9,10,2),(10,13,2),(11,30,2)],.bQ 7 2 false 9 1 y2,.bQ 10 2 false 9 1 y2,.bQ 13 2 false 9 1 y2,.bQ 30 2 false 52 7 y16],[1,2,25,26]⟩ .e))) [uD,dX,sj]
def ve(b:Int)(a:Int)(c:ar)(d:C):Y (aD×Int×Unit):=(lH b).bind λf=>bif (!f)then some (zz2,5,())else(oO (decide (a<0)) (some (decide (1000000<a)))).bind λg=>bif g then some (zz2,1,())else(bF (af c)).bind λe=>bif (!decide (e=0))then some (zz2,e,())else bif decide (200<(ByteArray.size d:Int))then some (zz2,3,())else(mP (aD.mk b a 1 1 (af c) d [] [] [] [])).bind λh=>(kV (eT0 h)).bind λi=>some ((eT0 i),0,())
def CE:=kf func310 [t0,t0,t4,t2] (.many [y8,y0]) (u4 ve) [] .e [pq,bM,si,oh]
noncomputable def ql(a:Int):Y Int:=some (aC .i64 (Cq (rY a 11) 0) 1)
def vt:=kf func311 [t0] q0 (u1 ql) [] .e []
def pY(c:Z C):Y (C×Bool×Unit):=aE (λ(a:C×Int×Unit)=>bif decide (a.2.1<(c.length:Int))then aX (λ(e:C×Unit)=>some (inl (e.1,(aC .i64 a.2.1 1),()))) λd=>(idx c a.2.1).bind λb=>(oE b).bind λf=>(aO f ((eA b a.1).bind λg=>some (decide (0<g)))).bind λh=>bif h then d (b,())else d (a.1,())else oR (some (a.1,(!decide (a.1=bE)),()))) (bE,0,())
def zr:=kf func346 [t13] (.many [y2,y1]) (u1 pY) [] (p_ 5 11 (.j ⟨[.val 4 y2,.val 9 y0],[7,8]⟩ (p_ 3 6 (.j ⟨[.val 4 y2],[7,8,9]⟩ .e)))) [uC,jf]
def gY(a:aW):Y aW:=(bG (af a.ae)).bind λb=>(eN a.bn).bind λc=>some {a with ae:=(af b),bn:=c}
def jF:=kf func349 [t9] (.one y9) (u1 gY) [] .e [bZ,gz]
def vi(b:Z aj):Y aj:=aE (λ(a:Int×aj×Unit)=>bif decide (a.1<(b.length:Int))then aX (λ(e:aj×Unit)=>some (inl ((aC .i64 a.1 1),e.1,()))) λc=>(idx b a.1).bind λd=>(oO (decide (a.1=0)) ((cP a.2.1 d).bind some)).bind λf=>bif f then c (d,())else c (a.2.1,())else oR (some a.2.1)) (0,zB,())
def CK:=kf func362 [.ty y36] (.one y3) (u1 vi) [] (p_ 5 11 (.j ⟨[.val 8 y0,.box 1 1 y3 []],[2,3,6,7]⟩ (p_ 3 6 (.j ⟨[.box 1 1 y3 []],[2,3,6,7,8]⟩ .e)))) [fb]
def fK(a:av):Y C:=(aU a.aa.bN).bind λd=>bif (!d)then some a.aa.bN.Value else bif (!decide (a.aa.eo=1))then some a.aa.aG.Value else bif (!decide (a.aa.fX=bE))then some a.aa.fX else aE (λ(b:Int×Z aj×Unit)=>bif decide (b.1<(a.aa.bn.length:Int))then(idx a.aa.bn b.1).bind λc=>bif bp 24 (b.2.1.length+List.length [c.aG])then some (inl ((aC .i64 b.1 1),(b.2.1++[c.aG]),()))else none else oR ((vi b.2.1).bind λe=>some e.Value)) (0,[],())
def lq:=kf func316 [.ref (.ty y10)] (.one y2) (u1 fK) [] (p_ 6 23 (.ps (.own 3 46 2 y3) (.j ⟨[.val 51 y0,.own 3 31 2 false 46 2 y3],[49,50]⟩ .e))) [bj,CK]
def ti(s:av)(a:C):Y (Int×av):=(oO (decide ((ByteArray.size a:Int)<1)) (some (decide (200<(ByteArray.size a:Int))))).bind λc=>bif c then some (1,(av.mk (eT2 s.aa)))else aX (λ(d:av×Unit)=>some (0,(av.mk (eT2 d.1.aa)))) λb=>(aU s.aa.aG).bind λe=>bif e then(fK (av.mk {s.aa with ae:=(af s.aa.ae),fX:=a})).bind λf=>b ((av.mk {s.aa with ae:=(af s.aa.ae),aG:=(aj.mk 1 f),fX:=a}),())else b ((av.mk {s.aa with ae:=(af s.aa.ae),fX:=a}),())
def B0:=kr func315 0 y10 [.ref (t2)] q0 (λs a=>ti s a.1) [] (p_ 3 7 (.j ⟨[.box 0 0 y10 []],[]⟩ .e)) [bj,lq]
def dH(s:av):Y ((Unit)×av):=(aU s.aa.aG).bind λa=>(aO (!a) (some (decide (s.aa.c6=0)))).bind λb=>bif b then some ((()),(av.mk {s.aa with c6:=1,ae:=(af s.aa.ae)}))else some ((()),(av.mk (eT2 s.aa)))
def o6:=kr func410 0 y10 [] (.many []) (λs a=>dH s) [] .e [bj]
noncomputable def eB(a:av):Y By:=some (By.mk a.aa.eo a.aa.eX a.aa.dZ a.aa.aG a.aa.aR a.aa.bD a.aa.bN)
def Ba:=kf func445 [.ref (.ty y10)] (.one (Ty.st .sC)) (u1 eB) [] .e []
noncomputable def mi:SA U:=bc (aT prog 8 [5] f380) (.r (.l (.r (.l (.l (.g [(1,.ps (.own 2 48 15 y7))]))))))
noncomputable def gC(a:Z ao):Y (Z ao):=bif List.isEmpty a then both (some []) (bif bp 176 (List.length ([]:Z ao)+a.length)then some (([]:Z ao)++a)else none)else bif bp 176 (List.length ([]:Z ao)+a.length)then some (([]:Z ao)++a)else none
def di(a:Z ao):Y (Z ao):=bif bp 176 (List.length ([]:Z ao)+a.length)then some (([]:Z ao)++a)else none
def mF(a0:Z ao):gC a0=di a0:=match a0 with|[]=>uT _|_::_=>rfl
noncomputable def gu:KS U prog:=⟨.fw 380 [t17] 48 15 y7 λa=>di a.1,CQ (K:=K) mi 8 [.tmp 2] [] (fk f380 [5] func380) (hF:=qa4 (b:=λa:((Z ao)×Unit)=>gC a.1) d_ (funext λa=>mF a.1))⟩
def cU(s:av):Y ((Z ao)×av):=(aU s.aa.aG).bind λc=>bif c then some (s.aa.bn,(av.mk (eT2 s.aa)))else(di s.aa.bn).bind λa=>(cx (eT2 s.aa)).bind λb=>bif bp 176 (a.length+List.length [(eT1 b)])then some ((a++[(eT1 b)]),(av.mk (eT2 s.aa)))else none
def Bb:=kr func481 0 y10 [] (.one y17) (λs a=>cU s) [] .e [bj,gu,eI]
def yg:∀s a q,(λs a=>cU s:av->(Unit)->Y ((Z ao)×av)) s a=some q->q.2=s:=by intro s a q h;simp only[cU,cond_eq_ite,etas,aW.eta,ao.eta,av.eta]at h;repeat' (first|(rw[Qd]at h;obtain⟨_,_,h⟩:=h)|(split at h)|(exact(QJ Prod.snd (Option.some.inj h)).symm)|(cases h;done))
noncomputable def ga:KS U prog:=⟨.ro 481 0 y10 [] (.one y17) λs a=>cU s,Xq Bb.s yg⟩
def tZ(c:Int)(i:ar)(g:Z ao):Y bq:=bif decide ((10:Int)<=10)&&decide ((0:Int)<=10)&&bp 64 (toNat 10)then(oO (decide (c<0)) (some (decide (10<=c)))).bind λj=>bif j then some (bq.mk (replicate (toNat 10) zz13))else(bG (af i)).bind λk=>(idx (replicate (toNat 10) zz13) c).bind λr=>((replicate (toNat 10) zz13)[(toNat c)]?).bind λs=>aE (λ(a:Int×bq×Z bW×Unit)=>bif decide (a.1<(g.length:Int))then aX (λ(l:bq×Z bW×Unit)=>some (inl ((aC .i64 a.1 1),zz9,l.2.1,()))) λh=>(idx g a.1).bind λb=>(dg (eT1 b)).bind λm=>(aO m ((idx a.2.2.1 b.aF).bind λn=>(a.2.2.1[(toNat b.aF)]?).bind λo=>(a.2.2.1[(toNat b.aF)]?).bind λd=>some (!d.qM))).bind λe=>bif e then(bG (af b.ae)).bind λf=>(idx a.2.2.1 b.aF).bind λp=>(a.2.2.1[(toNat b.aF)]?).bind λq=>h (zz9,(a.2.2.1.set (toNat b.aF) (bW.mk true (af f))),())else h (zz9,a.2.2.1,())else oR (some (bq.mk a.2.2.1))) (0,zz9,((replicate (toNat 10) zz13).set (toNat c) (bW.mk true (af k))),())else none
def zT:=kf func417 [t0,t4,t17] (.one y12) (u3 tZ) [] (p_ 7 47 (.j ⟨[.val 28 y0,.box 4 1 y12 [(0,2,2)],.bQ 2 2 false 65 4 y21],[6,7,26,27]⟩ (p_ 3 6 (.j ⟨[.box 4 1 y12 [(0,2,3)],.bQ 2 3 false 65 4 y21],[6,7,26,27,28]⟩ .e)))) [bZ,dE]
def vh(c:Z ao):Y (Z cg):=aE (λ(a:Int×Z cg×Unit)=>bif decide (a.1<(c.length:Int))then aX (λ(e:(Z cg)×Unit)=>some (inl ((aC .i64 a.1 1),e.1,()))) λd=>(idx c a.1).bind λb=>(dg (eT1 b)).bind λf=>bif f then bif bp 176 (a.2.1.length+List.length [(cg.mk (eT1 b))])then d ((a.2.1++[(cg.mk (eT1 b))]),())else none else d (a.2.1,())else oR (some a.2.1)) (0,[],())
def CI:=kf func418 [t17] (.one (Ty.sl (Ty.st .o0))) (u1 vh) [] (p_ 5 11 (.ps (.own 3 313 15 y19) (.j ⟨[.val 8 y0,.own 3 5 2 false 313 15 y19],[6,7]⟩ (p_ 3 6 (.j ⟨[.own 3 5 3 false 313 15 y19],[6,7,8]⟩ .e))))) [dE]
def gW(a:Int)(c:ar)(b:Z ao):Y eM:=(tZ a (af c) b).bind λd=>(vh b).bind λe=>some (eM.mk a d e)
def jy:=kf func379 [t0,t4,t17] (.one y18) (u3 gW) [] .e [zT,CI]
def fy(b:Z aj):Y Int:=aE (λ(a:Int×Unit)=>bif decide (a.1<(b.length:Int))then(idx b a.1).bind λc=>(aU c).bind λd=>bif d then oR (some a.1)else some (inl ((aC .i64 a.1 1),()))else oR (some (-1:Int))) (0,())
def kN:=kf func567 [.ty y36,.aQ 248 []] q0 (λa=>fy a.1) [] (p_ 4 5 (.j ⟨[.val 8 y0],[0,1,7]⟩ .e)) [bj]
noncomputable def jW:SA U:=bc (aT prog 42 [] f546) (.r (.r (.r (.b (.r (.l (.j ⟨[.val 5 y0,.val 6 y0,.own 0 0 0 true 46 2 y3],[1]⟩ (.l (.r (.j ⟨[.val 5 y0,.own 0 0 0 true 46 2 y3],[1,6]⟩ .e)))))) (.r (.l (.g [(4,.ps (.cut 4))])))))))
def fh(s:Z aj):Y (Z aj):=(fy s).bind λb=>bif decide (b=(-1:Int))then some s else aE (λ(a:Int×Int×Z aj×Unit)=>bif decide (a.2.1<(a.2.2.1.length:Int))then aX (λ(c:Int×Z aj×Unit)=>some (inl (c.1,(aC .i64 a.2.1 1),c.2.1,()))) λd=>(idx a.2.2.1 a.2.1).bind λg=>(a.2.2.1[(toNat a.2.1)]?).bind λe=>(aU e).bind λf=>bif (!f)then(idx a.2.2.1 a.1).bind λh=>(a.2.2.1[(toNat a.1)]?).bind λi=>d ((aC .i64 a.1 1),(a.2.2.1.set (toNat a.1) e),())else d (a.1,a.2.2.1,())else oR (bif eR a.1 ((a.2.2.1.length):Int) (a.2.2.1.length)then bif eR 0 a.1 (List.length (a.2.2.1.take (toNat a.1)++replicate (toNat ((a.2.2.1.length):Int) - toNat a.1) zB++a.2.2.1.drop ((toNat a.1)+(toNat ((a.2.2.1.length):Int) - toNat a.1))))then some ((a.2.2.1.take (toNat a.1)++replicate (toNat ((a.2.2.1.length):Int) - toNat a.1) zB++a.2.2.1.drop ((toNat a.1)+(toNat ((a.2.2.1.length):Int) - toNat a.1))).take (toNat a.1 - toNat 0))else none else none)) (b,(aC .i64 b 1),s,())
noncomputable def ki:KS U prog:=⟨.cw 546 46 2 y3 [.aQ 248 []] λs a=>fh s,J8 (K:=K) jW 42 [.tmp 4] [kN,bj] (fk f546 [] func546)⟩
def mh(a:aj)(b:aj):Y Int:=(iX b a).bind some
def Ad:=kf func547 [t3,t3] q0 (u2 mh) [] .e [vJ]
def fI(s:Z aj):Y (Unit×Z aj):=yY (λx y=>mh x y) s
noncomputable def ll:KS U prog:=⟨.rw 565 46 2 y3 [.aQ 547 []] (.many []) λs a=>fI s,UI (T:=y3) (F:=λa=>mh a.1 a.2.1) FL.enters FL.none Ad.s (λ_=>rfl) FL.Dp s_ (λ_=>rfl) (λ_=>rfl)⟩
noncomputable def mS:SA U:=bc (aT prog 61 [] f566) (.r (.r (.l (.r (.l (.j ⟨[.val 3 y0,.own 0 0 0 true 46 2 y3],[]⟩ (.l (.r (.l (.l (.r (.l (.r (.b (.r (.l (.j ⟨[.val 3 y0,.val 5 y0,.own 0 0 0 true 46 2 y3],[4]⟩ (.l (.r (.j ⟨[.val 3 y0,.own 0 0 0 true 46 2 y3],[4,5]⟩ .e)))))) (.r (.l (.g [(4,.ps (.cut 2))])))))))))))))))))
noncomputable def gR(s:Z aj):Y (Z aj):=bif decide ((s.length:Int)<2)then some s else aE (λ(b:Int×Z aj×Unit)=>bif decide (b.1<(b.2.1.length:Int))then(idx b.2.1 b.1).bind λn=>(b.2.1[(toNat b.1)]?).bind λf=>(idx b.2.1 (iH .i64 b.1 1)).bind λo=>(b.2.1[(toNat (iH .i64 b.1 1))]?).bind λg=>bif (ox false f.al g.al f.Value g.Value)then bif eR b.1 ((b.2.1.length):Int) (b.2.1.length)then aE (λ(a:Int×Int×Z aj×Unit)=>bif decide (a.2.1<((List.length ((a.2.2.1.drop (toNat b.1)).take (toNat ((b.2.1.length):Int) - toNat b.1)):Nat):Int))then aX (λ(h:Int×Z aj×Unit)=>some (inl (h.1,(aC .i64 a.2.1 1),h.2.1,()))) λi=>(idx ((a.2.2.1.drop (toNat b.1)).take (toNat ((b.2.1.length):Int) - toNat b.1)) a.2.1).bind λp=>(a.2.2.1[((toNat b.1)+toNat a.2.1)]?).bind λc=>(idx ((a.2.2.1.drop (toNat b.1)).take (toNat ((b.2.1.length):Int) - toNat b.1)) (iH .i64 a.2.1 1)).bind λj=>(a.2.2.1[((toNat b.1)+toNat (iH .i64 a.2.1 1))]?).bind λd=>bif (ox true c.al d.al c.Value d.Value)then(idx ((a.2.2.1.drop (toNat b.1)).take (toNat ((b.2.1.length):Int) - toNat b.1)) a.2.1).bind λk=>(a.2.2.1[((toNat b.1)+toNat a.2.1)]?).bind λe=>(idx a.2.2.1 a.1).bind λl=>(a.2.2.1[(toNat a.1)]?).bind λm=>i ((aC .i64 a.1 1),(a.2.2.1.set (toNat a.1) e),())else i (a.1,a.2.2.1,())else oR (bif eR a.1 ((a.2.2.1.length):Int) (a.2.2.1.length)then bif eR 0 a.1 (List.length (a.2.2.1.take (toNat a.1)++replicate (toNat ((a.2.2.1.length):Int) - toNat a.1) zB++a.2.2.1.drop ((toNat a.1)+(toNat ((a.2.2.1.length):Int) - toNat a.1))))then oR (some ((a.2.2.1.take (toNat a.1)++replicate (toNat ((a.2.2.1.length):Int) - toNat a.1) zB++a.2.2.1.drop ((toNat a.1)+(toNat ((a.2.2.1.length):Int) - toNat a.1))).take (toNat a.1 - toNat 0)))else none else none)) (b.1,1,b.2.1,())else none else some (inl ((aC .i64 b.1 1),b.2.1,()))else oR (some b.2.1)) (1,s,())
noncomputable def nf:KS U prog:=⟨.cw 566 46 2 y3 [] λs a=>gR s,J8 (K:=K) mS 61 [.tmp 2] [] (fk f566 [] func566)⟩
noncomputable def oN:SA U:=bc (aT prog 10 [] f545) .e
def iW(s:Z aj):Y (Z aj):=(fI s).bind λa=>(gR a.2).bind some
noncomputable def pr:KS U prog:=⟨.cw 545 46 2 y3 [.aQ 547 []] λs a=>iW s,J8 (K:=K) oN 10 [.tmp 4] [ll,nf] (fk f545 [] func545)⟩
def nB(d:Z ao):Y (Z aj):=aE (λ(b:Int×Z aj×Unit)=>bif decide (b.1<(d.length:Int))then aX (λ(g:(Z aj)×Unit)=>some (inl ((aC .i64 b.1 1),g.1,()))) λc=>(idx d b.1).bind λa=>(dg (eT1 a)).bind λh=>bif (!h)then c (b.2.1,())else bif decide (a.cQ=1)then bif bp 24 (b.2.1.length+List.length [a.aG,a.aR,a.bD])then c ((b.2.1++[a.aG,a.aR,a.bD]),())else none else bif decide (a.cQ=2)then(jz (eT1 a) 1000000).bind λe=>bif bp 24 (b.2.1.length+List.length [a.aR,e])then c ((b.2.1++[a.aR,e]),())else none else(jz (eT1 a) 1000000).bind λf=>bif bp 24 (b.2.1.length+List.length [f])then c ((b.2.1++[f]),())else none else oR ((fh b.2.1).bind λi=>(iW i).bind some)) (0,[],())
def s5:=kf func507 [t17] (.one y36) (u1 nB) [] (p_ 5 11 (.ps (.own 3 46 2 y3) (.j ⟨[.val 8 y0,.own 3 5 2 false 46 2 y3],[6,7]⟩ (p_ 3 6 (.j ⟨[.own 3 5 3 false 46 2 y3],[6,7,8]⟩ .e))))) [dE,Ac,ki,pr]
noncomputable def iT(a:aj):Y aj:=aX (λ(c:aj×Unit)=>some c.1) λb=>bif decide (1000<=a.al)then b ((aj.mk 1000000 a.Value),())else b (a,())
def DT:=kf func508 [t3] (.one y3) (u1 iT) [] (.r (.j ⟨[.box 0 1 y3 []],[1,2]⟩ .e)) []
noncomputable def pA(a:aj):Y (aj×Unit):=some (a,())
def vC:=kf func511 [t3] (.fn (.aQ 551 [.ref (t3)])) (λa=>pA a.1) [] .e []
def kY(a:cg)(b:aj):Y Bool:=(aU b).bind λc=>bif c then some false else bif decide (a.ah.cQ=1)then(fY a.ah.aG b).bind some else(bu a.ah.aG b).bind some
def sm:=kf func550 [t19,t3] q1 (u2 kY) [] .e [bj,qz,cn]
def pU(a:cg)(b:aj):Y Bool:=(kY (cg.mk (eT1 a.ah)) b).bind some
def zm:=kf func549 [t19,.ref (t3)] q1 (u2 pU) [] .e [sm]
def jM(a:cg)(b:aj):Y Bool:=(aU b).bind λc=>bif c then some false else bif decide (a.ah.cQ=1)then(eu a.ah.aR a.ah.bD b).bind some else bif decide (a.ah.cQ=2)then(fY a.ah.aR b).bind some else(bu a.ah.aG b).bind some
def qx:=kf func552 [t19,t3] q1 (u2 jM) [] .e [bj,kR,qz,cn]
def nu(a:cg)(b:aj):Y Bool:=(jM (cg.mk (eT1 a.ah)) b).bind some
def sX:=kf func551 [t19,.ref (t3)] q1 (u2 nu) [] .e [qx]
def iV(a:cg)(b:aj)(c:aj):Y Bool:=(pU (cg.mk (eT1 a.ah)) b).bind λd=>(oO d ((nu (cg.mk (eT1 a.ah)) c).bind some)).bind some
def po:=kf func568 [t19,.ref (.aQ 549 [.ref (t3)]),.ref (.aQ 551 [.ref (t3)])] q1 (λa=>iV a.1 a.2.1.1 a.2.2.1.1) [] .e [zm,sX]
def jv(c:eM)(e:aj)(f:aj):Y Int:=aE (λ(a:Int×Int×Unit)=>bif decide (a.2.1<(c.bn.length:Int))then aX (λ(g:Int×Unit)=>some (inl (g.1,(aC .i64 a.2.1 1),()))) λd=>(idx c.bn a.2.1).bind λb=>(iV (cg.mk (eT1 b.ah)) e f).bind λh=>bif h then if b.ah.aF<0 then none else d ((vB .i64 a.1 (dJ .i64 1 b.ah.aF)),())else d (a.1,())else oR (some a.1)) (0,0,())
def pJ:=kf func381 [t18,.aQ 568 [.ref (.aQ 549 [.ref (t3)]),.ref (.aQ 551 [.ref (t3)])]] q0 (λa=>jv a.1 a.2.1.1.1 a.2.1.2.1.1) [] (p_ 5 11 (.j ⟨[.val 5 y0,.val 11 y0],[1,9,10]⟩ (p_ 3 6 (.j ⟨[.val 5 y0],[1,9,10,11]⟩ .e)))) [po]
def ku(c:eM)(e:aj):Y Int:=aE (λ(a:Int×Int×Unit)=>bif decide (a.2.1<(c.bn.length:Int))then aX (λ(f:Int×Unit)=>some (inl (f.1,(aC .i64 a.2.1 1),()))) λd=>(idx c.bn a.2.1).bind λb=>(nu (cg.mk (eT1 b.ah)) e).bind λg=>bif g then if b.ah.aF<0 then none else d ((vB .i64 a.1 (dJ .i64 1 b.ah.aF)),())else d (a.1,())else oR (some a.1)) (0,0,())
def o5:=kf func381 [t18,.aQ 551 [.ref (t3)]] q0 (λa=>ku a.1 a.2.1.1) [] (p_ 5 11 (.j ⟨[.val 5 y0,.val 11 y0],[1,9,10]⟩ (p_ 3 6 (.j ⟨[.val 5 y0],[1,9,10,11]⟩ .e)))) [sX]
def jJ(a:eM)(c:aj)(b:aj):Y Bool:=(jv a c b).bind λd=>(ku a b).bind λe=>(jU a.View a.aF d e).bind some
def qu:=kf func548 [t18,.aQ 549 [.ref (t3)],.aQ 551 [.ref (t3)]] q1 (λa=>jJ a.1 a.2.1.1 a.2.2.1.1) [] .e [pJ,o5,ni]
def mM(b:eM)(a:aj):Y Bool:=(pA a).bind λc=>(jJ b a c.1).bind some
def AZ:=kf func509 [t18,t3] q1 (u2 mM) [] .e [vC,qu]
def Aw(o:Int)(p:ar)(i:Z ao)(j:aj)(k:aj)(l:C):Y aj:=(gW o (af p) i).bind λm=>(nB i).bind λn=>aE (λ(c:Int×aj×Unit)=>bif decide (c.1<(n.length:Int))then(idx n c.1).bind λa=>aX (λ(q:Bool×Unit)=>bif q.1 then oR (some a)else some (inl ((aC .i64 c.1 1),c.2.1,()))) λb=>bif decide (l=bE)then(iT j).bind λr=>(iT k).bind λs=>(eu r s a).bind λt=>bif (!t)then(mM m a).bind λd=>b (d,())else b (false,())else bif decide (a.Value=l)then(iT j).bind λe=>(iT k).bind λf=>(eu e f a).bind λg=>bif (!g)then(mM m a).bind λh=>b (h,())else b (false,())else b (false,())else oR (some zB)) (0,zB,())
def Ht:=kf func480 [t0,t4,t17,t3,t3,t2] (.one y3) (u6 Aw) [] (p_ 5 11 (.j ⟨[.val 23 y0,.box 3 1 y3 []],[5,9,10,12,13,21,22]⟩ (p_ 6 38 (.j ⟨[.val 48 y1],[5,9,10,12,13,15,21,22,23]⟩ .e)))) [jy,s5,DT,kR,AZ]
def Ax(b:aj)(c:aj)(a:aj):Y (aj×aj×Unit):=aX (λ(k:aj×aj×aj×Unit)=>some (b,k.1,())) λj=>(aU a).bind λl=>bif l then j (c,zB,zB,())else(aU b).bind λm=>bif m then some (a,c,())else(cP b a).bind λn=>bif n then aX (λ(o:aj×Unit)=>some (a,o.1,())) λd=>(bu b a).bind λp=>bif (!p)then d (b,())else(bu c a).bind λq=>bif q then d (zB,())else d (c,())else(cP a b).bind λe=>(aO e ((bu b a).bind λf=>some (!f))).bind λg=>(aO g ((aU c).bind λh=>(oO h ((cP c a).bind some)).bind some)).bind λi=>bif i then some (b,a,())else j (c,zB,zB,())
def Hu:=kf func482 [t3,t3,t3] (.many [y3,y3]) (u3 Ax) [] (.r (.j ⟨[.box 1 1 y3 [],.box 3 1 y3 [],.box 4 1 y3 []],[3,4,6,7]⟩ (p_ 8 124 (.j ⟨[.box 1 1 y3 []],[3,4,5,6,7]⟩ .e)))) [bj,fb,cn]
def qL(d:C)(g:Int)(e:aj)(f:aj):Y Int:=aE (λ(a:Int×Int×Unit)=>bif decide (a.2.1<((List.length [e,f]:Nat):Int))then aX (λ(h:Int×Unit)=>some (inl (h.1,(aC .i64 a.2.1 1),()))) λc=>(idx [e,f] a.2.1).bind λb=>(eO b).bind λi=>(oO (!i) ((dw b (aj.mk a.1 d)).bind λj=>some (!j))).bind λk=>bif k then c (a.1,())else(dw b (aj.mk b.al d)).bind λl=>bif l then c ((aC .i64 b.al 1),())else c (b.al,())else oR (some a.1)) ((Cq g 1),0,())
def xE:=kf func483 [t2,t0,t3,t3] q0 (u4 qL) [] (p_ 5 11 (.j ⟨[.val 9 y0,.val 18 y0],[0,16,17]⟩ (p_ 3 6 (.j ⟨[.val 9 y0],[0,16,17,18]⟩ .e)))) [kQ,qA]
def nR(s:av):Y ((Unit)×av):=(aU s.aa.aG).bind λf=>(oO f (some (decide (s.aa.eo=3)))).bind λg=>bif g then some ((()),(av.mk (eT2 s.aa)))else aX (λ(h:C×Unit)=>(cU (av.mk (eT2 s.aa))).bind λi=>(Aw s.aa.aF (af s.aa.ae) i.1 s.aa.aR s.aa.bD h.1).bind λc=>(aU c).bind λj=>bif j then some ((()),(av.mk (eT2 s.aa)))else(Ax s.aa.aR s.aa.bD (aj.mk (rY c.al 1000) c.Value)).bind λa=>(aO (decide (s.aa.eo=1)) (some (!decide (s.aa.eX=0)))).bind λk=>bif k then(qL s.aa.aG.Value s.aa.eX a.1 a.2.1).bind λb=>(cx {s.aa with ae:=(af s.aa.ae),aR:=a.1,bD:=a.2.1,eX:=b}).bind λd=>bif decide (d.dZ<b)then some ((()),(av.mk {s.aa with ae:=(af s.aa.ae),aR:=a.1,bD:=a.2.1,eX:=0}))else some ((()),(av.mk {s.aa with ae:=(af s.aa.ae),aR:=a.1,bD:=a.2.1,eX:=b}))else some ((()),(av.mk {s.aa with ae:=(af s.aa.ae),aR:=a.1,bD:=a.2.1}))) λe=>bif decide (s.aa.eo=2)then e (s.aa.aG.Value,())else e (bE,())
def wH:=kr func446 0 y10 [] (.many []) (λs a=>nR s) [] (p_ 2 3 (.j ⟨[.val 2 y2],[0]⟩ .e)) [bj,ga,Ht,Hu,xE,eI]
def ma(a:eM)(b:aj):Y Bool:=(ku a b).bind λc=>(jk a.View a.aF c).bind some
def tH:=kf func510 [t18,.aQ 551 [.ref (t3)]] q1 (λa=>ma a.1 a.2.1.1) [] .e [o5,mD]
def vQ(f:Int)(g:ar)(d:Z ao)(h:aj):Y aj:=(gW f (af g) d).bind λi=>(nB d).bind λe=>aE (λ(a:Int×aj×Unit)=>bif decide (a.1<(e.length:Int))then(idx e a.1).bind λb=>aX (λ(j:Bool×Unit)=>bif j.1 then oR (some b)else some (inl ((aC .i64 a.1 1),a.2.1,()))) λc=>(cP h b).bind λk=>bif k then bif decide (b.al<=1000)then(pA b).bind λl=>(ma i l.1).bind λm=>c (m,())else c (false,())else c (false,())else oR (some zB)) (0,zB,())
def DU:=kf func484 [t0,t4,t17,t3] (.one y3) (u4 vQ) [] (p_ 5 11 (.j ⟨[.val 19 y0,.box 2 1 y3 []],[7,8,9,17,18]⟩ (p_ 6 38 (.j ⟨[.val 36 y1],[7,8,9,11,17,18,19]⟩ .e)))) [jy,s5,fb,vC,tH]
def iG(s:av)(a:aj):Y ((Unit)×av):=aX (λ(b:av×Unit)=>some ((()),(av.mk {b.1.aa with ae:=(af b.1.aa.ae),aG:=a}))) λc=>(bu s.aa.aG a).bind λd=>bif (!d)then c ((av.mk {s.aa with ae:=(af s.aa.ae),eX:=0}),())else c ((av.mk (eT2 s.aa)),())
def lP:=kr func345 0 y10 [t3] (.many []) (λs a=>iG s a.1) [] (.r (.j ⟨[.box 0 0 y10 []],[0,3]⟩ .e)) [cn]
def qY(s:av):Y ((Unit)×av):=(aU s.aa.aG).bind λi=>(oO i (some (!decide (s.aa.eo=1)))).bind λj=>bif j then some ((()),(av.mk (eT2 s.aa)))else(cU (av.mk (eT2 s.aa))).bind λk=>(vQ s.aa.aF (af s.aa.ae) k.1 s.aa.bN).bind λb=>(aU b).bind λl=>bif l then some ((()),(av.mk (eT2 s.aa)))else aX (λ(a:av×Unit)=>aX (λ(m:Bool×Unit)=>bif m.1 then(qL b.Value a.1.aa.aG.al a.1.aa.aR a.1.aa.bD).bind λc=>bif decide (c<=b.al)then some ((()),(av.mk {a.1.aa with ae:=(af a.1.aa.ae),eX:=c}))else some ((()),(av.mk (eT2 a.1.aa)))else some ((()),(av.mk (eT2 a.1.aa)))) λg=>bif decide (a.1.aa.eX=0)then(bu a.1.aa.aG b).bind λd=>g (d,())else g (false,())) λh=>(cP s.aa.aG b).bind λe=>bif e then(iG (av.mk {s.aa with ae:=(af s.aa.ae),bN:=b}) b).bind λf=>h ((av.mk (eT2 f.2.aa)),())else h ((av.mk {s.aa with ae:=(af s.aa.ae),bN:=b}),())
def zX:=kr func447 0 y10 [] (.many []) (λs a=>qY s) [] (p_ 4 15 (.j ⟨[.box 0 0 y10 []],[0,2]⟩ (.r (.j ⟨[.val 67 y1],[0,2]⟩ .e)))) [bj,ga,DU,fb,lP,cn,xE]
def iu(s:Z C):Y (Unit×Z C):=yY (λx y=>ew x y) s
noncomputable def ob:KS U prog:=⟨.rw 472 9 1 y2 [.aQ 451 []] (.many []) λs a=>iu s,Lt (T:=y2) (F:=λa=>ew a.1 a.2.1) xc.enters xc.none o8.s (λ_=>rfl) xc.Dp (λ_=>rfl)⟩
noncomputable def rB:SA U:=bc (aT prog 10 [] f553) .e
def kX(s:Z C):Y (Z C):=(iu s).bind λa=>(gE a.2).bind some
noncomputable def sk:KS U prog:=⟨.cw 553 9 1 y2 [.aQ 451 []] λs a=>kX s,J8 (K:=K) rB 10 [.tmp 4] [ob,kO] (fk f553 [] func553)⟩
def vg(c:Z ao):Y (Z C):=aE (λ(a:Int×Z C×Unit)=>bif decide (a.1<(c.length:Int))then aX (λ(e:(Z C)×Unit)=>some (inl ((aC .i64 a.1 1),e.1,()))) λd=>(idx c a.1).bind λb=>(dg (eT1 b)).bind λf=>bif f then bif bp 16 (a.2.1.length+List.length [b.aG.Value])then d ((a.2.1++[b.aG.Value]),())else none else d (a.2.1,())else oR ((kX a.2.1).bind some)) (0,[],())
def CH:=kf func513 [t17] (.one y13) (u1 vg) [] (p_ 5 11 (.ps (.own 3 9 1 y2) (.j ⟨[.val 8 y0,.own 3 5 2 false 9 1 y2],[6,7]⟩ (p_ 3 6 (.j ⟨[.own 3 5 3 false 9 1 y2],[6,7,8]⟩ .e))))) [dE,sk]
def kU(s:Z Int):Y (Unit×Z Int):=yY (λx y=>bX x y) s
noncomputable def sf:KS U prog:=⟨.rw 569 3 1 y0 [.aQ 185 []] (.many []) λs a=>kU s,Lt (T:=y0) (F:=λa=>bX a.1 a.2.1) FK.enters FK.none fm.s (λ_=>rfl) FK.Dp (λ_=>rfl)⟩
noncomputable def wq:SA U:=bc (aT prog 61 [] f570) (.r (.r (.l (.r (.l (.j ⟨[.val 3 y0,.own 0 0 0 true 3 1 y0],[]⟩ (.l (.r (.l (.l (.r (.l (.r (.b (.r (.l (.j ⟨[.val 3 y0,.val 5 y0,.own 0 0 0 true 3 1 y0],[4]⟩ (.l (.r (.j ⟨[.val 3 y0,.own 0 0 0 true 3 1 y0],[4,5]⟩ .e)))))) (.r (.l (.g [(4,.ps (.cut 2))])))))))))))))))))
noncomputable def oA(s:Z Int):Y (Z Int):=bif decide ((s.length:Int)<2)then some s else aE (λ(b:Int×Z Int×Unit)=>bif decide (b.1<(b.2.1.length:Int))then(idx b.2.1 b.1).bind λn=>(b.2.1[(toNat b.1)]?).bind λh=>(idx b.2.1 (iH .i64 b.1 1)).bind λo=>(b.2.1[(toNat (iH .i64 b.1 1))]?).bind λi=>bif decide (h=i)then bif eR b.1 ((b.2.1.length):Int) (b.2.1.length)then aE (λ(a:Int×Int×Z Int×Unit)=>bif decide (a.2.1<((List.length ((a.2.2.1.drop (toNat b.1)).take (toNat ((b.2.1.length):Int) - toNat b.1)):Nat):Int))then aX (λ(f:Int×Z Int×Unit)=>some (inl (f.1,(aC .i64 a.2.1 1),f.2.1,()))) λg=>(idx ((a.2.2.1.drop (toNat b.1)).take (toNat ((b.2.1.length):Int) - toNat b.1)) a.2.1).bind λp=>(a.2.2.1[((toNat b.1)+toNat a.2.1)]?).bind λc=>(idx ((a.2.2.1.drop (toNat b.1)).take (toNat ((b.2.1.length):Int) - toNat b.1)) (iH .i64 a.2.1 1)).bind λj=>(a.2.2.1[((toNat b.1)+toNat (iH .i64 a.2.1 1))]?).bind λd=>bif (!decide (c=d))then(idx ((a.2.2.1.drop (toNat b.1)).take (toNat ((b.2.1.length):Int) - toNat b.1)) a.2.1).bind λk=>(a.2.2.1[((toNat b.1)+toNat a.2.1)]?).bind λe=>(idx a.2.2.1 a.1).bind λl=>(a.2.2.1[(toNat a.1)]?).bind λm=>g ((aC .i64 a.1 1),(a.2.2.1.set (toNat a.1) e),())else g (a.1,a.2.2.1,())else oR (bif eR a.1 ((a.2.2.1.length):Int) (a.2.2.1.length)then bif eR 0 a.1 (List.length (a.2.2.1.take (toNat a.1)++replicate (toNat ((a.2.2.1.length):Int) - toNat a.1) 0++a.2.2.1.drop ((toNat a.1)+(toNat ((a.2.2.1.length):Int) - toNat a.1))))then oR (some ((a.2.2.1.take (toNat a.1)++replicate (toNat ((a.2.2.1.length):Int) - toNat a.1) 0++a.2.2.1.drop ((toNat a.1)+(toNat ((a.2.2.1.length):Int) - toNat a.1))).take (toNat a.1 - toNat 0)))else none else none)) (b.1,1,b.2.1,())else none else some (inl ((aC .i64 b.1 1),b.2.1,()))else oR (some b.2.1)) (1,s,())
noncomputable def xv:KS U prog:=⟨.cw 570 3 1 y0 [] λs a=>oA s,J8 (K:=K) wq 61 [.tmp 2] [] (fk f570 [] func570)⟩
noncomputable def tw:SA U:=bc (aT prog 10 [] f554) .e
def mu(s:Z Int):Y (Z Int):=(kU s).bind λa=>(oA a.2).bind some
noncomputable def uF:KS U prog:=⟨.cw 554 3 1 y0 [.aQ 185 []] λs a=>mu s,J8 (K:=K) tw 10 [.tmp 4] [sf,xv] (fk f554 [] func554)⟩
def iy(c:Z ao)(e:C):Y (Z Int):=aE (λ(a:Int×Z Int×Unit)=>bif decide (a.1<(c.length:Int))then aX (λ(f:(Z Int)×Unit)=>some (inl ((aC .i64 a.1 1),f.1,()))) λd=>(idx c a.1).bind λb=>(dg (eT1 b)).bind λg=>(aO g (some (decide (b.aG.Value=e)))).bind λh=>(aO h (some (!decide (b.eX=0)))).bind λi=>bif i then bif bp 8 (a.2.1.length+List.length [b.eX,b.dZ])then d ((a.2.1++[b.eX,b.dZ]),())else none else d (a.2.1,())else oR ((mu a.2.1).bind some)) (0,[],())
def oi:=kf func514 [t17,t2] (.one y11) (u2 iy) [] (p_ 5 11 (.ps (.own 5 3 1 y0) (.j ⟨[.val 10 y0,.own 5 5 2 false 3 1 y0],[1,8,9]⟩ (p_ 3 6 (.j ⟨[.own 5 5 3 false 3 1 y0],[1,8,9,10]⟩ .e))))) [dE,uF]
def qK(a:C)(b:Int)(c:aj)(d:aj):Y Bool:=(dw c (aj.mk b a)).bind λe=>(oO e ((dw d (aj.mk b a)).bind some)).bind some
def xD:=kf func512 [t2,t0,.ref (t3),.ref (t3)] q1 (u4 qK) [] .e [qA]
noncomputable def qJ(a:C)(b:Int)(c:Int):Y (C×Int×Int×Unit):=some (a,b,c,())
def xC:=kf func557 [t2,t0,t0] (.fn (.aQ 572 [.ref (t2),.ref (t0),.ref (t0)])) (λa=>qJ a.1 a.2.1 a.2.2.1) [] .e []
noncomputable def ly(b:cg)(c:C)(a:Int)(d:Int):Y Bool:=(aO (decide (1<=a)) (some (decide (a<=d)))).bind λe=>(aO e (some (decide (b.ah.aG.Value=c)))).bind λf=>(aO f (some (decide (b.ah.eX<=a)))).bind some
def pK:=kf func571 [t19,t2,t0,t0] q1 (u4 ly) [] .e []
def lD(a:cg)(c:C)(d:Int)(b:Int):Y Bool:=(ly (cg.mk (eT1 a.ah)) c d b).bind λe=>(aO e ((oO (!decide (a.ah.cQ=1)) ((aO (!decide (a.ah.eX=0)) (some (decide (b<=a.ah.dZ)))).bind some)).bind some)).bind some
def sU:=kf func556 [t19,t2,t0,t0] q1 (u4 lD) [] .e [pK]
def xZ(a:cg)(b:C)(c:Int)(d:Int):Y Bool:=(lD (cg.mk (eT1 a.ah)) b c d).bind some
def Fa:=kf func555 [t19,.ref (t2),.ref (t0),.ref (t0)] q1 (u4 xZ) [] .e [sU]
def kb(a:cg)(c:C)(d:Int)(b:Int):Y Bool:=(ly (cg.mk (eT1 a.ah)) c d b).bind λe=>(aO e ((oO (decide (a.ah.cQ=3)) ((aO (decide (a.ah.cQ=2)) (some (decide (b<=a.ah.dZ)))).bind some)).bind some)).bind some
def rI:=kf func573 [t19,t2,t0,t0] q1 (u4 kb) [] .e [pK]
def oK(a:cg)(b:C)(c:Int)(d:Int):Y Bool:=(kb (cg.mk (eT1 a.ah)) b c d).bind some
def uJ:=kf func572 [t19,.ref (t2),.ref (t0),.ref (t0)] q1 (u4 oK) [] .e [rI]
def iU(a:cg)(b:C)(c:Int)(d:Int)(e:C)(f:Int)(g:Int):Y Bool:=(xZ (cg.mk (eT1 a.ah)) b c d).bind λh=>(oO h ((oK (cg.mk (eT1 a.ah)) e f g).bind some)).bind some
def pn:=kf func568 [t19,.ref (.aQ 555 [.ref (t2),.ref (t0),.ref (t0)]),.ref (.aQ 572 [.ref (t2),.ref (t0),.ref (t0)])] q1 (λa=>iU a.1 a.2.1.1 a.2.1.2.1 a.2.1.2.2.1 a.2.2.1.1 a.2.2.1.2.1 a.2.2.1.2.2.1) [] .e [Fa,uJ]
def ju(c:eM)(e:C)(f:Int)(g:Int)(h:C)(i:Int)(j:Int):Y Int:=aE (λ(a:Int×Int×Unit)=>bif decide (a.2.1<(c.bn.length:Int))then aX (λ(k:Int×Unit)=>some (inl (k.1,(aC .i64 a.2.1 1),()))) λd=>(idx c.bn a.2.1).bind λb=>(iU (cg.mk (eT1 b.ah)) e f g h i j).bind λl=>bif l then if b.ah.aF<0 then none else d ((vB .i64 a.1 (dJ .i64 1 b.ah.aF)),())else d (a.1,())else oR (some a.1)) (0,0,())
def pI:=kf func381 [t18,.aQ 568 [.ref (.aQ 555 [.ref (t2),.ref (t0),.ref (t0)]),.ref (.aQ 572 [.ref (t2),.ref (t0),.ref (t0)])]] q0 (λa=>ju a.1 a.2.1.1.1 a.2.1.1.2.1 a.2.1.1.2.2.1 a.2.1.2.1.1 a.2.1.2.1.2.1 a.2.1.2.1.2.2.1) [] (p_ 5 11 (.j ⟨[.val 5 y0,.val 11 y0],[1,9,10]⟩ (p_ 3 6 (.j ⟨[.val 5 y0],[1,9,10,11]⟩ .e)))) [pn]
def kq(c:eM)(e:C)(f:Int)(g:Int):Y Int:=aE (λ(a:Int×Int×Unit)=>bif decide (a.2.1<(c.bn.length:Int))then aX (λ(h:Int×Unit)=>some (inl (h.1,(aC .i64 a.2.1 1),()))) λd=>(idx c.bn a.2.1).bind λb=>(oK (cg.mk (eT1 b.ah)) e f g).bind λi=>bif i then if b.ah.aF<0 then none else d ((vB .i64 a.1 (dJ .i64 1 b.ah.aF)),())else d (a.1,())else oR (some a.1)) (0,0,())
def o4:=kf func381 [t18,.aQ 572 [.ref (t2),.ref (t0),.ref (t0)]] q0 (λa=>kq a.1 a.2.1.1 a.2.1.2.1 a.2.1.2.2.1) [] (p_ 5 11 (.j ⟨[.val 5 y0,.val 11 y0],[1,9,10]⟩ (p_ 3 6 (.j ⟨[.val 5 y0],[1,9,10,11]⟩ .e)))) [uJ]
def jI(a:eM)(e:C)(f:Int)(g:Int)(b:C)(c:Int)(d:Int):Y Bool:=(ju a e f g b c d).bind λh=>(kq a b c d).bind λi=>(jU a.View a.aF h i).bind some
def qt:=kf func548 [t18,.aQ 555 [.ref (t2),.ref (t0),.ref (t0)],.aQ 572 [.ref (t2),.ref (t0),.ref (t0)]] q1 (λa=>jI a.1 a.2.1.1 a.2.1.2.1 a.2.1.2.2.1 a.2.2.1.1 a.2.2.1.2.1 a.2.2.1.2.2.1) [] .e [pI,o4,ni]
def jA(e:eM)(b:C)(c:Int)(d:Int):Y Bool:=(qJ b c d).bind λa=>(jI e b c d a.1 a.2.1 a.2.2.1).bind some
def lQ:=kf func515 [t18,t2,t0,t0] q1 (u4 jA) [] .e [xC,qt]
noncomputable def dj(a:Z Int):Y ((Z Int)×Unit):=some (a,())
def dQ:=kf func518 [t11] (.fn (.aQ 558 [.ref (t11)])) (λa=>dj a.1) [] .e []
def tK:KS U prog:=⟨.bk 558 1 none,(⟨f558,[],func558,rfl,d_,d_,d_⟩:dL prog 558 19 (xH 1 none) [])⟩
def rq(b:Int)(c:aj)(d:aj)(a:aj)(e:eM):Y Bool:=(qK a.Value b c d).bind λf=>(aO (!f) ((jA e a.Value b a.al).bind some)).bind some
def Ag:=kf func517 [t0,.ref (.aQ 512 [.ref (t3),.ref (t3)]),.ref (t3),.ref (t18)] q1 (λa=>rq a.1 a.2.1.1 a.2.1.2.1 a.2.2.1 a.2.2.2.1) [] .e [xD,lQ]
def mw(d:Z Int)(e:Int)(f:aj)(g:aj)(h:aj)(i:eM):Y Int:=aX (λ(j:Int×Unit)=>some j.1) λc=>(dj d).bind λk=>oY (λ(n:Nat) (a:Int) (b:Int×Unit)=>bif decide (b.1<=a)then some (inl (b.1,()))else(rq a f g h i).bind λl=>bif (!l)then oR (c (b.1,()))else some (inl (a,()))) (λ(m:Int×Unit)=>c (m.1,())) (List.reverse k.1) (e,())
def uI:=kf func516 [t11,t0,.aQ 517 [.ref (.aQ 512 [.ref (t3),.ref (t3)]),.ref (t3),.ref (t18)]] q0 (λa=>mw a.1 a.2.1 a.2.2.1.1.1 a.2.2.1.1.2.1 a.2.2.1.2.1 a.2.2.1.2.2.1) [] (.r (.j ⟨[.box 0 1 y0 []],[4]⟩ (p_ 3 2 (.k ⟨[.box 0 1 y0 []],[4,5,10]⟩ 558 1 none y0 .e)))) [dQ,tK,Ag]
def Ay(s:Int)(t:ar)(e:Z ao)(l:aj)(m:aj):Y (C×Int×Int×Bool×Unit):=(gW s (af t) e).bind λn=>(vg e).bind λo=>aE (λ(a:Bool×Int×aj×Unit)=>bif decide (a.2.1<(o.length:Int))then(idx o a.2.1).bind λc=>(iy e c).bind λp=>aE (λ(b:Bool×Int×aj×Unit)=>bif decide (b.2.1<(p.length:Int))then aX (λ(q:Bool×aj×Unit)=>some (inl (q.1,(aC .i64 b.2.1 1),q.2.1,()))) λr=>(idx p b.2.1).bind λd=>(cP b.2.2.1 (aj.mk d c)).bind λf=>(aO f ((qK c d l m).bind λg=>some (!g))).bind λh=>(aO h ((jA n c d d).bind some)).bind λi=>bif i then r (true,(aj.mk d c),())else r (b.1,b.2.2.1,())else oR (some (inl (b.1,(aC .i64 a.2.1 1),b.2.2.1,())))) (a.1,0,a.2.2.1,())else oR (bif (!a.1)then some (bE,0,0,false,())else(iy e a.2.2.1.Value).bind λj=>(mw j a.2.2.1.al l m a.2.2.1 n).bind λk=>some (a.2.2.1.Value,k,a.2.2.1.al,true,()))) (false,0,zB,())
def Hw:=kf func485 [t0,t4,t17,t3,t3] (.many [y2,y0,y0,y1]) (u5 Ay) [] (p_ 7 47 (.j ⟨[.val 13 y1,.val 30 y0,.box 16 1 y3 []],[2,14,15,16,28,29]⟩ (p_ 8 102 (.j ⟨[.val 13 y1,.val 38 y0,.box 16 1 y3 []],[2,14,15,16,18,28,29,30,36,37]⟩ (p_ 3 6 (.j ⟨[.val 13 y1,.box 16 1 y3 []],[2,14,15,16,18,28,29,30,36,37,38]⟩ .e)))))) [jy,CH,oi,fb,xD,lQ,uI]
def wg(a:Int)(b:eM)(c:C)(d:Int):Y Bool:=(jA b c a d).bind some
def Ec:=kf func519 [t0,.ref (t18),.ref (t2),.ref (t0)] q1 (u4 wg) [] .e [lQ]
def qc(d:Z Int)(e:Int)(f:eM)(g:C)(h:Int):Y Int:=aX (λ(i:Int×Unit)=>some i.1) λc=>(dj d).bind λj=>oY (λ(m:Nat) (a:Int) (b:Int×Unit)=>bif decide (b.1<=a)then some (inl (b.1,()))else(wg a f g h).bind λk=>bif (!k)then oR (c (b.1,()))else some (inl (a,()))) (λ(l:Int×Unit)=>c (l.1,())) (List.reverse j.1) (e,())
def zy:=kf func516 [t11,t0,.aQ 519 [.ref (t18),.ref (t2),.ref (t0)]] q0 (λa=>qc a.1 a.2.1 a.2.2.1.1 a.2.2.1.2.1 a.2.2.1.2.2.1) [] (.r (.j ⟨[.box 0 1 y0 []],[4]⟩ (p_ 3 2 (.k ⟨[.box 0 1 y0 []],[4,5,10]⟩ 558 1 none y0 .e)))) [dQ,tK,Ec]
def we(a:Int)(b:eM)(c:C)(d:Int):Y Bool:=(jA b c a d).bind some
def Eb:=kf func520 [t0,.ref (t18),.ref (t2),.ref (t0)] q1 (u4 we) [] .e [lQ]
def qb(d:Z Int)(e:Int)(f:eM)(g:C)(h:Int):Y Int:=aX (λ(i:Int×Unit)=>some i.1) λc=>(dj d).bind λj=>oY (λ(m:Nat) (a:Int) (b:Int×Unit)=>bif decide (b.1<=a)then some (inl (b.1,()))else(we a f g h).bind λk=>bif (!k)then oR (c (b.1,()))else some (inl (a,()))) (λ(l:Int×Unit)=>c (l.1,())) (List.reverse j.1) (e,())
def zx:=kf func516 [t11,t0,.aQ 520 [.ref (t18),.ref (t2),.ref (t0)]] q0 (λa=>qb a.1 a.2.1 a.2.2.1.1 a.2.2.1.2.1 a.2.2.1.2.2.1) [] (.r (.j ⟨[.box 0 1 y0 []],[4]⟩ (p_ 3 2 (.k ⟨[.box 0 1 y0 []],[4,5,10]⟩ 558 1 none y0 .e)))) [dQ,tK,Eb]
def yV(p:Int)(q:ar)(n:Z ao)(f:C)(r:Int)(s:Int):Y (Int×Int×Unit):=(gW p (af q) n).bind λg=>(iy n f).bind λh=>aX (λ(i:Int×Int×Unit)=>(qb h i.1 g f i.2.1).bind λt=>some (t,i.2.1,())) λo=>(dj h).bind λu=>oY (λ(v:Nat) (b:Int) (c:Int×Int×Unit)=>(oO (decide (b<=c.2.1)) ((jA g f b b).bind λj=>some (!j))).bind λk=>bif k then some (inl (c.1,c.2.1,()))else(qc h b g f b).bind λa=>aX (λ(l:Int×Unit)=>oR (o (l.1,b,()))) λd=>(oO (decide (c.2.1<(iH .i64 a 1))) (some (decide (a<c.1)))).bind λm=>bif m then d (a,())else d (c.1,())) (λ(e:Int×Int×Unit)=>o (e.1,e.2.1,())) (List.reverse u.1) (r,s,())
def Gv:=kf func486 [t0,t4,t17,t2,t0,t0] (.many [y0,y0]) (u6 yV) [] (p_ 3 7 (.j ⟨[.box 2 1 y0 [],.box 3 1 y0 []],[9,10,11,14,15]⟩ (p_ 3 2 (.k ⟨[.box 2 1 y0 [],.box 3 1 y0 []],[9,10,11,14,15,27]⟩ 558 1 none y0 (p_ 4 13 (.j ⟨[.box 2 1 y0 []],[9,10,11,14,15,17,27]⟩ .e)))))) [jy,oi,dQ,tK,lQ,zy,zx]
end
section
def oH(s:av):Y ((Unit)×av):=bif decide (s.aa.eo=1)then(cU (av.mk (eT2 s.aa))).bind λn=>(Ay s.aa.aF (af s.aa.ae) n.1 s.aa.aR s.aa.bD).bind λa=>bif (!a.2.2.2.1)then some ((()),(av.mk (eT2 s.aa)))else aX (λ(c:av×Unit)=>aX (λ(j:av×Unit)=>some ((()),(av.mk {j.1.aa with ae:=(af j.1.aa.ae),eo:=2,bD:=zB,bN:=(aj.mk a.2.2.1 a.1),eX:=a.2.1,dZ:=a.2.2.1}))) λk=>aX (λ(o:Bool×Unit)=>bif o.1 then k ((av.mk {c.1.aa with ae:=(af c.1.aa.ae),aR:=(aj.mk a.2.2.1 a.1)}),())else k ((av.mk (eT2 c.1.aa)),())) λl=>(cP c.1.aa.aR (aj.mk a.2.2.1 a.1)).bind λp=>bif p then l (true,())else(bu c.1.aa.aR (aj.mk a.2.2.1 a.1)).bind λe=>l ((!e),())) λm=>aX (λ(f:Bool×Unit)=>bif f.1 then m ((av.mk {s.aa with ae:=(af s.aa.ae),aG:=(aj.mk (Cq s.aa.aG.al a.2.2.1) a.1)}),())else m ((av.mk (eT2 s.aa)),())) λd=>(cP s.aa.aG (aj.mk a.2.2.1 a.1)).bind λg=>bif g then d (true,())else(bu s.aa.aG (aj.mk a.2.2.1 a.1)).bind λh=>d ((!h),())else bif decide (s.aa.eo=2)then(cU (av.mk (eT2 s.aa))).bind λi=>(yV s.aa.aF (af s.aa.ae) i.1 s.aa.aG.Value s.aa.eX s.aa.dZ).bind λb=>some ((()),(av.mk {s.aa with ae:=(af s.aa.ae),aG:=(aj.mk (Cq s.aa.aG.al b.2.1) s.aa.aG.Value),aR:=(aj.mk (Cq s.aa.aR.al b.2.1) s.aa.aG.Value),bN:=(aj.mk (Cq s.aa.bN.al b.2.1) s.aa.aG.Value),eX:=b.1,dZ:=b.2.1}))else some ((()),(av.mk (eT2 s.aa)))
def xA:=kr func448 0 y10 [] (.many []) (λs a=>oH s) [180] (p_ 3 5 (.b (p_ 3 7 (.j ⟨[.box 0 0 y10 []],[0,3,4,6]⟩ (.b (.j ⟨[.val 65 y1],[0,2,3,4,6]⟩ .e) (.j ⟨[.box 0 0 y10 []],[0,3,4,6]⟩ (.l (.j ⟨[.val 96 y1],[0,3,4,6]⟩ .e)))))) (p_ 5 13 (.u 4 .e)))) [ga,Hw,fb,cn,Gv]
def l9(a:eM)(b:C)(c:Int)(d:Int):Y Bool:=(kq a b c d).bind λe=>(jk a.View a.aF e).bind some
def tG:=kf func510 [t18,.aQ 572 [.ref (t2),.ref (t0),.ref (t0)]] q1 (λa=>l9 a.1 a.2.1.1 a.2.1.2.1 a.2.1.2.2.1) [] .e [o4,mD]
def vx(b:eM)(c:C)(d:Int)(e:Int):Y Bool:=(qJ c d e).bind λa=>(l9 b a.1 a.2.1 a.2.2.1).bind some
def BI:=kf func521 [t18,t2,t0,t0] q1 (u4 vx) [] .e [xC,tG]
def ya(a:Int)(b:eM)(c:C)(d:Int):Y Bool:=(vx b c a d).bind some
def Fb:=kf func522 [t0,.ref (t18),.ref (t2),.ref (t0)] q1 (u4 ya) [] .e [BI]
def qa(d:Z Int)(e:Int)(f:eM)(g:C)(h:Int):Y Int:=aX (λ(i:Int×Unit)=>some i.1) λc=>(dj d).bind λj=>oY (λ(m:Nat) (a:Int) (b:Int×Unit)=>bif decide (b.1<=a)then some (inl (b.1,()))else(ya a f g h).bind λk=>bif (!k)then oR (c (b.1,()))else some (inl (a,()))) (λ(l:Int×Unit)=>c (l.1,())) (List.reverse j.1) (e,())
def zw:=kf func516 [t11,t0,.aQ 522 [.ref (t18),.ref (t2),.ref (t0)]] q0 (λa=>qa a.1 a.2.1 a.2.2.1.1 a.2.2.1.2.1 a.2.2.1.2.2.1) [] (.r (.j ⟨[.box 0 1 y0 []],[4]⟩ (p_ 3 2 (.k ⟨[.box 0 1 y0 []],[4,5,10]⟩ 558 1 none y0 .e)))) [dQ,tK,Fb]
def Az(g:Int)(h:ar)(d:Z ao)(b:C):Y (Int×Int×Bool×Unit):=(gW g (af h) d).bind λe=>(iy d b).bind λf=>(dj f).bind λi=>oY (λ(l:Nat) (a:Int) (c:Int×Int×Bool×Unit)=>(vx e b a a).bind λj=>bif j then(qa f a e b a).bind λk=>oR (some (k,a,true,()))else some (inl (c.1,c.2.1,c.2.2.1,()))) (λ(m:Int×Int×Bool×Unit)=>some (0,0,false,())) (List.reverse i.1) (0,0,false,())
def Hy:=kf func487 [t0,t4,t17,t2] (.many [y0,y0,y1]) (u4 Az) [] (p_ 6 23 (.k ⟨[.box 2 1 y0 [],.box 3 1 y0 [],.box 4 1 y1 []],[7,8,9,10,11,12,23]⟩ 558 1 none y0 .e)) [jy,oi,dQ,tK,BI,zw]
def pc(s:av):Y ((Unit)×av):=bif (!decide (s.aa.eo=2))then some ((()),(av.mk (eT2 s.aa)))else(cU (av.mk (eT2 s.aa))).bind λb=>(Az s.aa.aF (af s.aa.ae) b.1 s.aa.aG.Value).bind λa=>bif (!a.2.2.1)then some ((()),(av.mk (eT2 s.aa)))else some ((()),(av.mk (aW.mk s.aa.aF s.aa.bt s.aa.c6 (af s.aa.ae) 3 (aj.mk a.2.1 s.aa.aG.Value) zB zB zB a.1 a.2.1 s.aa.fX s.aa.bn)))
def yl:=kr func449 0 y10 [] (.many []) (λs a=>pc s) [] .e [ga,Hy]
noncomputable def kv(a:cg):Y Int:=bif decide (a.ah.cQ=3)then some 1000000 else some a.ah.aG.al
def o7:=kf func383 [t19] q0 (u1 kv) [] .e []
def nA(a:ao):Y Int:=(dg (eT1 a)).bind λb=>bif (!b)then some 0 else(kv (cg.mk (eT1 a))).bind some
def sZ:=kf func490 [t7] q0 (u1 nA) [] .e [dE,o7]
noncomputable def yS(c:Z ao)(d:Z Bool):Y Int:=aE (λ(a:Int×Int×Unit)=>bif decide (a.2.1<(c.length:Int))then aX (λ(f:Int×Unit)=>some (inl (f.1,(aC .i64 a.2.1 1),()))) λe=>(idx c a.2.1).bind λb=>(aO (decide (a.2.1<(d.length:Int))) ((idx d a.2.1).bind some)).bind λg=>(aO g (some (decide (0<=b.aF)))).bind λh=>(aO h (some (decide (b.aF<10)))).bind λi=>bif i then if b.aF<0 then none else e ((vB .i64 a.1 (dJ .i64 1 b.aF)),())else e (a.1,())else oR (some a.1)) (0,0,())
def Gs:=kf func523 [t17,.ty (Ty.sl Ty.bool)] q0 (u2 yS) [] (p_ 5 11 (.j ⟨[.val 5 y0,.val 10 y0],[1,8,9]⟩ (p_ 3 6 (.j ⟨[.val 5 y0],[1,8,9,10]⟩ .e)))) []
def pZ(b:av)(c:Int):Y Int:=bif decide ((b.aa.bn.length:Int)<=(b.aa.bn.length:Int))&&decide (0<=(b.aa.bn.length:Int))&&bp 1 (toNat (b.aa.bn.length:Int))then aE (λ(a:Int×Z Bool×Unit)=>bif decide (a.1<(b.aa.bn.length:Int))then(idx b.aa.bn a.1).bind λd=>(nA (eT1 d)).bind λe=>(idx a.2.1 a.1).bind λf=>(a.2.1[(toNat a.1)]?).bind λg=>some (inl ((aC .i64 a.1 1),(a.2.1.set (toNat a.1) (decide (c<e))),()))else oR ((yS b.aa.bn a.2.1).bind some)) (0,(replicate (toNat (b.aa.bn.length:Int)) false),())else none
def zt:=kf func489 [.ref (.ty y10),t0] q0 (u2 pZ) [] (p_ 5 11 (.j ⟨[.val 21 y0,.own 5 7 2 false 4 1 y1],[0,1,19,20]⟩ .e)) [sZ,Gs]
def jj(b:Int)(c:bq)(a:av):Y Bool:=(pZ (av.mk (eT2 a.aa)) b).bind λd=>(pF c a.aa.aF d).bind some
def wI:=kf func488 [t0,.ref (t12),.ref (.ref (.ty y10))] q1 (u3 jj) [] .e [zt,vI]
def pb(s:av):Y ((Unit)×av):=bif decide (s.aa.eo=3)then some ((()),(av.mk (eT2 s.aa)))else(cU (av.mk (eT2 s.aa))).bind λm=>(tZ s.aa.aF (af s.aa.ae) m.1).bind λk=>(jj s.aa.aG.al k (av.mk (eT2 s.aa))).bind λn=>bif (!n)then some ((()),(av.mk (eT2 s.aa)))else aE (λ(a:Int×Int×Unit)=>bif decide (a.2.1<(s.aa.bn.length:Int))then aX (λ(o:Int×Unit)=>some (inl (o.1,(aC .i64 a.2.1 1),()))) λl=>(idx s.aa.bn a.2.1).bind λp=>(nA (eT1 p)).bind λc=>(aO (decide (s.aa.aG.al<c)) (some (decide (c<a.1)))).bind λq=>(aO q ((jj c k (av.mk (eT2 s.aa))).bind λd=>some (!d))).bind λe=>bif e then l (c,())else l (a.1,())else oR (aX (λ(f:aj×Unit)=>(iG (av.mk (eT2 s.aa)) f.1).bind λg=>some ((()),(av.mk (eT2 g.2.aa)))) λb=>(aU s.aa.aG).bind λh=>(oO h (some (decide (s.aa.eo=1)))).bind λi=>bif i then(fK (av.mk (eT2 s.aa))).bind λj=>b ((aj.mk (rY a.1 1000) j),())else b ((aj.mk (rY a.1 1000) s.aa.aG.Value),()))) (1000000,0,())
def yk:=kr func450 0 y10 [] (.many []) (λs a=>pb s) [] (p_ 6 63 (.b (p_ 2 1 (.j ⟨[.val 4 y0,.val 44 y0],[1,3,42,43]⟩ (p_ 3 6 (.j ⟨[.val 4 y0],[1,3,42,43,44]⟩ .e)))) (.r (.j ⟨[.box 52 1 y3 []],[1,8]⟩ .e)))) [ga,zT,wI,sZ,bj,lq,lP]
def qZ(s:av):Y (Bool×av):=(eB (av.mk (eT2 s.aa))).bind λa=>(nR (av.mk (eT2 s.aa))).bind λi=>(eB (av.mk (eT2 i.2.aa))).bind λd=>bif (xor true (decide (d.oT=a.oT)&&(decide (d.low=a.low)&&(decide (d.tM=a.tM)&&(decide (d.eC.al=a.eC.al)&&(decide (d.eC.Value=a.eC.Value)&&(decide (d.c9.al=a.c9.al)&&(decide (d.c9.Value=a.c9.Value)&&(decide (d.fM.al=a.fM.al)&&(decide (d.fM.Value=a.fM.Value)&&(decide (d.cE.al=a.cE.al)&&(decide (d.cE.Value=a.cE.Value)&&true))))))))))))then(dH (av.mk (eT2 i.2.aa))).bind λo=>some (true,(av.mk (eT2 o.2.aa)))else(qY (av.mk (eT2 i.2.aa))).bind λj=>(eB (av.mk (eT2 j.2.aa))).bind λe=>bif (xor true (decide (e.oT=a.oT)&&(decide (e.low=a.low)&&(decide (e.tM=a.tM)&&(decide (e.eC.al=a.eC.al)&&(decide (e.eC.Value=a.eC.Value)&&(decide (e.c9.al=a.c9.al)&&(decide (e.c9.Value=a.c9.Value)&&(decide (e.fM.al=a.fM.al)&&(decide (e.fM.Value=a.fM.Value)&&(decide (e.cE.al=a.cE.al)&&(decide (e.cE.Value=a.cE.Value)&&true))))))))))))then(dH (av.mk (eT2 j.2.aa))).bind λp=>some (true,(av.mk (eT2 p.2.aa)))else(oH (av.mk (eT2 j.2.aa))).bind λk=>(eB (av.mk (eT2 k.2.aa))).bind λf=>bif (xor true (decide (f.oT=a.oT)&&(decide (f.low=a.low)&&(decide (f.tM=a.tM)&&(decide (f.eC.al=a.eC.al)&&(decide (f.eC.Value=a.eC.Value)&&(decide (f.c9.al=a.c9.al)&&(decide (f.c9.Value=a.c9.Value)&&(decide (f.fM.al=a.fM.al)&&(decide (f.fM.Value=a.fM.Value)&&(decide (f.cE.al=a.cE.al)&&(decide (f.cE.Value=a.cE.Value)&&true))))))))))))then(dH (av.mk (eT2 k.2.aa))).bind λl=>some (true,(av.mk (eT2 l.2.aa)))else(pc (av.mk (eT2 k.2.aa))).bind λg=>(eB (av.mk (eT2 g.2.aa))).bind λb=>bif (xor true (decide (b.oT=a.oT)&&(decide (b.low=a.low)&&(decide (b.tM=a.tM)&&(decide (b.eC.al=a.eC.al)&&(decide (b.eC.Value=a.eC.Value)&&(decide (b.c9.al=a.c9.al)&&(decide (b.c9.Value=a.c9.Value)&&(decide (b.fM.al=a.fM.al)&&(decide (b.fM.Value=a.fM.Value)&&(decide (b.cE.al=a.cE.al)&&(decide (b.cE.Value=a.cE.Value)&&true))))))))))))then(dH (av.mk (eT2 g.2.aa))).bind λm=>some (true,(av.mk (eT2 m.2.aa)))else(pb (av.mk (eT2 g.2.aa))).bind λh=>(eB (av.mk (eT2 h.2.aa))).bind λc=>bif (xor true (decide (c.oT=a.oT)&&(decide (c.low=a.low)&&(decide (c.tM=a.tM)&&(decide (c.eC.al=a.eC.al)&&(decide (c.eC.Value=a.eC.Value)&&(decide (c.c9.al=a.c9.al)&&(decide (c.c9.Value=a.c9.Value)&&(decide (c.fM.al=a.fM.al)&&(decide (c.fM.Value=a.fM.Value)&&(decide (c.cE.al=a.cE.al)&&(decide (c.cE.Value=a.cE.Value)&&true))))))))))))then(dH (av.mk (eT2 h.2.aa))).bind λn=>some (true,(av.mk (eT2 n.2.aa)))else some (false,(av.mk (eT2 h.2.aa)))
def zY:=kr func411 0 y10 [] q1 (λs a=>qZ s) [18] (p_ 5 11 (.u 6 .e)) [Ba,wH,o6,zX,xA,yl,yk]
def eW(s:av):Y ((Unit)×av):=(dH (av.mk (eT2 s.aa))).bind λb=>aE (λ(c:av×Unit)=>(qZ (av.mk (eT2 c.1.aa))).bind λa=>bif a.1 then some (inl ((av.mk (eT2 a.2.aa)),()))else oR (some ((()),(av.mk (eT2 a.2.aa))))) ((av.mk (eT2 b.2.aa)),())
def gw:=kr func360 0 y10 [] (.many []) (λs a=>eW s) [] (p_ 2 1 (.j ⟨[.box 0 0 y10 []],[0]⟩ .e)) [o6,zY]
def mf(a:ao)(b:ao):Y Bool:=(ez (af a.ae) (af b.ae)).bind λc=>(aO c (some (decide (a.cQ=b.cQ)))).bind λd=>(aO d (some (ox false a.aG.al b.aG.al a.aG.Value b.aG.Value))).bind λe=>(aO e (some (ox false a.aR.al b.aR.al a.aR.Value b.aR.Value))).bind λf=>(aO f (some (ox false a.bD.al b.bD.al a.bD.Value b.bD.Value))).bind λg=>(aO g (some (decide (a.eX=b.eX)))).bind λh=>(aO h (some (decide (a.dZ=b.dZ)))).bind some
def oU:=kf func361 [t7,t7] q1 (u2 mf) [] .e [eV]
def rj(b:aW)(i:C):Y (aW×Int×Unit):=(fB (eT2 b)).bind λj=>bif (!j)then some (zz1,13,())else(gY (eT2 b)).bind λk=>(ti (av.mk (eT2 k)) i).bind λc=>bif (!decide (c.1=0))then some (zz1,c.1,())else(eW (av.mk (eT2 c.2.aa))).bind λa=>aX (λ(l:av×Unit)=>some ((eT2 l.1.aa),0,())) λg=>aX (λ(m:Bool×Unit)=>bif m.1 then g ((av.mk {a.2.aa with c6:=(rY (aC .i64 a.2.aa.c6 1) 1000000),ae:=(af a.2.aa.ae)}),())else g ((av.mk (eT2 a.2.aa)),())) λh=>(aU b.aG).bind λn=>bif (!n)then(cx (eT2 b)).bind λd=>(cx (eT2 a.2.aa)).bind λe=>(mf (eT1 d) (eT1 e)).bind λf=>h ((!f),())else h (false,())
def z8:=kf func314 [t9,.aQ 315 [.ref (t2)]] (.many [y9,y0]) (λa=>rj a.1 a.2.1.1) [] (p_ 5 31 (.j ⟨[.box 9 1 y10 []],[4,6]⟩ (.l (.j ⟨[.val 39 y1],[4,6]⟩ .e)))) [gy,jF,B0,gw,bj,eI,oU]
def pC(b:aW)(c:C):Y (aW×Int×Unit):=(rj (eT2 b) c).bind λa=>some ((eT2 a.1),a.2.1,())
def vF:=kf func238 [t9,t2] (.many [y9,y0]) (u2 pC) [3] .e [z8]
def gM(a:ba):Y ba:=aX (λ(b:ba×Unit)=>(pE (eT2 b.1.aa)).bind λe=>some (ba.mk (eT0 b.1.aP) (eT2 b.1.aa) b.1.Timer b.1.Round b.1.Next e.2.1 e.1)) λc=>(aO (decide (a.aa.eo=1)) ((aU a.aa.bN).bind some)).bind λg=>(aO g (some (decide (0<(a.aP.dm.length:Int))))).bind λh=>bif h then(pY a.aP.dm).bind λd=>(aO d.2.1 (some (!decide (d.1=a.aa.fX)))).bind λi=>bif i then(pC (eT2 a.aa) d.1).bind λf=>bif decide (f.2.1=0)then c ({a with aP:=(eT0 a.aP),aa:=(eT2 f.1)},())else c ((eT5 a),())else c ((eT5 a),())else c ((eT5 a),())
def iJ:=kf func278 [t5] (.one y5) (u1 gM) [] (.r (.j ⟨[.box 0 1 y5 []],[1,2]⟩ .e)) [bj,zr,vF,vH]
def sE(c:Int)(d:Int)(e:ar)(g:C)(f:Int):Y (ba×Int×Unit):=(vw f).bind λh=>bif (!h)then some (zz11,1,())else(BM c d (af e)).bind λa=>bif (!decide (a.2.1=0))then some (zz11,a.2.1,())else(ve c d (af e) g).bind λb=>bif (!decide (b.2.1=0))then some (zz11,b.2.1,())else(ql 1).bind λi=>(gM (ba.mk (eT0 b.1) (eT2 a.1) (gB.mk 0 (-1:Int)) 1 (aC .i64 f i) false bE)).bind λj=>some ((eT5 j),0,())
def AY:=kf func234 [t0,t0,t4,t2,t0] (.many [y5,y0]) (u5 sE) [] .e [BH,IP,CE,vt,iJ]
noncomputable def dn(s:Z ba)(a:Int)(b:Z ba):Y (Z ba):=CM 496 s a b
noncomputable def fE:KS U prog:=⟨.cw 235 117 37 y5 [t0,.ty y31] λs a=>dn s a.1 a.2.1,JD JJ.ways JJ.enters (λx=>K.len (y5) x)⟩
noncomputable def vq:SA U:=bc (aT prog 23 [] f168) (.r (.r (.b (.i 1 163 12 [.cell 2 (some 6)] (bc (aT prog 12 [] f163) .e) [] []) (.r (.l (.l (.i 1 169 11 [.tmp 5] (bc (aT prog 11 [] f169) (.r (.l (.i 4 170 57 [.tmp 8] (bc (aT prog 57 [] f170) (.r (.b (.i 2 233 14 [.tmp 4,.tmp 5] (bc (aT prog 14 [] f233) .e) [] []) (.r (.r (.j ⟨[.box 1 1 y6 [(5,15,2)],.bQ 15 2 false 117 37 y5],[12]⟩ .e)))))) [] [])))) [] [])))))))
def nP(a:ay)(f:Int)(i:C)(j:Int):Y (ay×Int×Unit):=(dy (eT3 a)).bind λk=>bif (!k)then some (zz3,13,())else(bG (af a.ae)).bind λc=>(cF a.b0).bind λb=>bif a.lW then some ({a with ae:=(af c),b0:=b},0,())else(a8 b f).bind λg=>bif g.2.1 then some (zz3,6,())else bif decide ((b.length:Int)=8)then some (zz3,3,())else(sE a.aF f (af c) i j).bind λd=>aX (λ(e:ay×Z ba×Unit)=>bif (!decide (d.2.1=0))then some (zz3,d.2.1,())else some ({e.1 with ae:=(af e.1.ae),b0:=e.2.1},0,())) λh=>bif decide (d.2.1=0)then(dn b g.1 [(eT5 d.1)]).bind λl=>h ({a with ae:=(af c),b0:=[]},l,())else h ({a with ae:=(af c),b0:=[]},b,())
noncomputable def wF:KS U prog:=⟨.fn 168 [t6,.aQ 169 [.ref (t0),.ref (t2),.ref (t0)]] (.many [y6,y0]) λa=>nP a.1 a.2.1.1 a.2.1.2.1 a.2.1.2.2.1,Fk (K:=K) vq 23 [.cell 4 (some 6),.tmp 5] [dV,bZ,de,db,AY,fE] [(163,12,(aT prog 12 [] f163),[.cell 2 (some 6)]),(169,11,(aT prog 11 [] f169),[.tmp 5]),(170,57,(aT prog 57 [] f170),[.tmp 8]),(233,14,(aT prog 14 [] f233),[.tmp 4,.tmp 5])] ⟨fk f163 [] func163,⟨fk f169 [] func169,⟨fk f170 [] func170,⟨fk f233 [] func233,trivial⟩⟩⟩⟩ (fk f168 [] func168)⟩
def td(b:ay)(c:Int)(d:C)(e:Int):Y (ay×Int×Unit):=(nP (eT3 b) c d e).bind λa=>some ((eT3 a.1),a.2.1,())
def BV:=kf func105 [t6,t0,t2,t0] (.many [y6,y0]) (u4 td) [5,6,7] .e [wF]
noncomputable def mV(s:ba)(c:aW)(a:Int):Y (Int×ba):=aX (λ(d:ba×Unit)=>some (a,(eT5 d.1))) λb=>bif decide (a=0)then b ({s with aP:=(eT0 s.aP),aa:=(eT2 c)},())else b ((eT5 s),())
def qi:=kr func239 0 y5 [t9,t0] q0 (λs a=>mV s a.1 a.2.1) [] (.r (.j ⟨[.box 0 0 y5 []],[2]⟩ .e)) []
def yK(s:ba)(c:C):Y (Int×ba):=(pC (eT2 s.aa) c).bind λa=>(mV (eT5 s) (eT2 a.1) a.2.1).bind λb=>some (b.1,(eT5 b.2))
def Gg:=kr func237 0 y5 [.ref (t2)] q0 (λs a=>yK s a.1) [] .e [vF,qi]
def uZ(b:ba)(c:C):Y (ba×Int×Unit):=(ir (eT5 b)).bind λd=>bif (!d)then some (zz11,13,())else(iM (eT5 b)).bind λe=>(yK (eT5 e) c).bind λa=>bif (!decide (a.1=0))then some (zz11,a.1,())else(gM (eT5 a.2)).bind λf=>some ((eT5 f),0,())
def Cx:=kf func236 [t5,.aQ 237 [.ref (t2)]] (.many [y5,y0]) (λa=>uZ a.1 a.2.1.1) [] .e [jE,kC,Gg,iJ]
def BL(b:ba)(c:C):Y (ba×Int×Unit):=(uZ (eT5 b) c).bind λa=>some ((eT5 a.1),a.2.1,())
def IM:=kf func174 [t5,t2] (.many [y5,y0]) (u2 BL) [3] .e [Cx]
def oD(b:ba)(c:C):Y (ba×Int×Unit):=(BL (eT5 b) c).bind λa=>some ((eT5 a.1),a.2.1,())
def xx:=kf func173 [t5,.ref (t2)] (.many [y5,y0]) (u2 oD) [] .e [IM]
noncomputable def vp:SA U:=bc (aT prog 23 [] f168) (.r (.r (.b (.i 1 163 12 [.cell 2 (some 6)] (bc (aT prog 12 [] f163) .e) [] []) (.r (.l (.l (.i 1 171 12 [.tmp 5] (bc (aT prog 12 [] f171) (.r (.l (.i 5 172 56 [.tmp 10] (bc (aT prog 56 [] f172) (.r (.b (.j ⟨[.val 11 y0,.box 1 1 y6 [(5,15,2)],.bQ 15 2 false 117 37 y5],[0,1,4]⟩ (.l (.i 4 170 57 [.tmp 8] (bc (aT prog 57 [] f170) (.r (.b (.i 2 233 14 [.tmp 4,.tmp 5] (bc (aT prog 14 [] f233) .e) [] []) (.r (.r (.j ⟨[.box 1 1 y6 [(5,15,2)],.bQ 15 2 false 117 37 y5],[12]⟩ .e)))))) [] []))) (.b (.i 2 233 14 [.tmp 4,.tmp 5] (bc (aT prog 14 [] f233) .e) [] []) (.r (.j ⟨[.bQ 15 2 true 117 37 y5],[15]⟩ .e)))))) [] [])))) [] [])))))))
def nO(b:ay)(l:Int)(p:C)(q:Int):Y (ay×Int×Unit):=(dy (eT3 b)).bind λr=>bif (!r)then some (zz3,13,())else(bG (af b.ae)).bind λg=>(cF b.b0).bind λd=>bif b.lW then some ({b with ae:=(af g),b0:=d},0,())else aX (λ(a:Int×ay×Z ba×Unit)=>(aO (!decide (a.1=0)) (some (!decide (a.1=6)))).bind λs=>bif s then bif (!decide (a.1=0))then some (zz3,a.1,())else some ({a.2.1 with ae:=(af a.2.1.ae),b0:=a.2.2.1},0,())else(a8 a.2.2.1 l).bind λh=>(idx a.2.2.1 h.1).bind λw=>(a.2.2.1[(toNat h.1)]?).bind λt=>(oD (eT5 t) p).bind λc=>aX (λ(m:(Z ba)×Unit)=>bif (!decide (c.2.1=0))then some (zz3,c.2.1,())else some ({a.2.1 with ae:=(af a.2.1.ae),b0:=m.1},0,())) λi=>bif decide (c.2.1=0)then(idx a.2.2.1 h.1).bind λu=>(a.2.2.1[(toNat h.1)]?).bind λv=>i ((a.2.2.1.set (toNat h.1) (eT5 c.1)),())else i (a.2.2.1,())) λn=>(a8 d l).bind λj=>bif j.2.1 then n (6,{b with ae:=(af g),b0:=[]},d,())else bif decide ((d.length:Int)=8)then n (3,{b with ae:=(af g),b0:=[]},d,())else(sE b.aF l (af g) p q).bind λe=>aX (λ(f:ay×Z ba×Unit)=>n (e.2.1,{f.1 with ae:=(af f.1.ae),b0:=[]},f.2.1,())) λk=>bif decide (e.2.1=0)then(dn d j.1 [(eT5 e.1)]).bind λo=>k ({b with ae:=(af g),b0:=[]},o,())else k ({b with ae:=(af g),b0:=[]},d,())
noncomputable def wE:KS U prog:=⟨.fn 168 [t6,.aQ 171 [.ref (t0),.ref (t2),.ref (t0)]] (.many [y6,y0]) λa=>nO a.1 a.2.1.1 a.2.1.2.1 a.2.1.2.2.1,Fk (K:=K) vp 23 [.cell 4 (some 6),.tmp 5] [dV,bZ,de,db,AY,fE,xx] [(163,12,(aT prog 12 [] f163),[.cell 2 (some 6)]),(171,12,(aT prog 12 [] f171),[.tmp 5]),(172,56,(aT prog 56 [] f172),[.tmp 10]),(170,57,(aT prog 57 [] f170),[.tmp 8]),(233,14,(aT prog 14 [] f233),[.tmp 4,.tmp 5]),(233,14,(aT prog 14 [] f233),[.tmp 4,.tmp 5])] ⟨fk f163 [] func163,⟨fk f171 [] func171,⟨fk f172 [] func172,⟨fk f170 [] func170,⟨fk f233 [] func233,⟨fk f233 [] func233,trivial⟩⟩⟩⟩⟩⟩ (fk f168 [] func168)⟩
def sF(b:ay)(c:Int)(d:C)(e:Int):Y (ay×Int×Unit):=(nO (eT3 b) c d e).bind λa=>some ((eT3 a.1),a.2.1,())
def A6:=kf func107 [t6,t0,t2,t0] (.many [y6,y0]) (u4 sF) [5,6,7] .e [wE]
noncomputable def BN:SA U:=bc (aT prog 15 [] f109) (.r (.r (.l (.i 1 163 12 [.cell 2 (some 6)] (bc (aT prog 12 [] f163) .e) [] []))))
def u9(a:ay):Y ay:=(dy (eT3 a)).bind λb=>(bG (af a.ae)).bind λc=>(cF a.b0).bind λd=>(oO a.lW (some b)).bind λe=>some (ay.mk a.aF e (af c) d)
noncomputable def CB:KS U prog:=⟨.fn 109 [t6] (.one y6) λa=>u9 a.1,Fk (K:=K) BN 15 [.cell 2 (some 6)] [dV,bZ,de] [(163,12,(aT prog 12 [] f163),[.cell 2 (some 6)])] ⟨fk f163 [] func163,trivial⟩ (fk f109 [] func109)⟩
noncomputable def sM(a:bA)(b:Int):Y Int:=bif decide (b<a.tq)then some 1 else some (-1:Int)
def Gm:=kf func200 [.ty y15,t0] q0 (u2 sM) [] .e []
def ec(d:Z bA)(e:Int):Y (Int×Bool×Unit):=aE (λ(a:Int×Int×Unit)=>bif decide (a.1<a.2.1)then(idx d (bB .i64 (iI .u64 (bB .u64 (aC .i64 a.1 a.2.1)) 1))).bind λb=>(sM {b with ak:={b.ak with ai:={b.ak.ai with ae:=(af b.ak.ai.ae)},ah:=(eT1 b.ak.ah)}} e).bind λf=>bif decide (f<0)then some (inl ((aC .i64 (bB .i64 (iI .u64 (bB .u64 (aC .i64 a.1 a.2.1)) 1)) 1),a.2.1,()))else some (inl (a.1,(bB .i64 (iI .u64 (bB .u64 (aC .i64 a.1 a.2.1)) 1)),()))else oR ((aO (decide (a.1<(d.length:Int))) ((idx d a.1).bind λc=>(sM {c with ak:={c.ak with ai:={c.ak.ai with ae:=(af c.ak.ai.ae)},ah:=(eT1 c.ak.ah)}} e).bind λg=>some (decide (g=0)))).bind λh=>some (a.1,h,()))) (0,(d.length:Int),())
def gS:=kf func199 [.ty y26,t0,.aQ 200 []] (.many [y0,y1]) (λa=>ec a.1 a.2.1) [] (p_ 5 7 (.j ⟨[.val 9 y0,.val 10 y0],[0,1,2,8]⟩ .e)) [Gm]
noncomputable def nT:SA U:=bc (aT prog 8 [5] f202) (.r (.l (.r (.l (.l (.g [(1,.ps (.own 2 158 28 y15))]))))))
noncomputable def iq(a:Z bA):Y (Z bA):=bif List.isEmpty a then both (some []) (bif bp 344 (List.length ([]:Z bA)+a.length)then some (([]:Z bA)++a)else none)else bif bp 344 (List.length ([]:Z bA)+a.length)then some (([]:Z bA)++a)else none
def dM(a:Z bA):Y (Z bA):=bif bp 344 (List.length ([]:Z bA)+a.length)then some (([]:Z bA)++a)else none
def ot(a0:Z bA):iq a0=dM a0:=match a0 with|[]=>uT _|_::_=>rfl
noncomputable def og:KS U prog:=⟨.fw 202 [.ty y26] 158 28 y15 λa=>dM a.1,CQ (K:=K) nT 8 [.tmp 2] [] (fk f202 [5] func202) (hF:=qa4 (b:=λa:((Z bA)×Unit)=>iq a.1) d_ (funext λa=>ot a.1))⟩
def xS(a:Int)(b:Int):Y Bool:=(eD a b).bind some
def E4:=kf func334 [t0,.ref (t0)] q1 (u2 xS) [] .e [fO]
def jY(b:Z Int)(c:Int):Y Int:=aE (λ(a:Int×Unit)=>bif decide (a.1<(b.length:Int))then(idx b a.1).bind λd=>(xS d c).bind λe=>bif e then oR (some a.1)else some (inl ((aC .i64 a.1 1),()))else oR (some (-1:Int))) (0,())
def rD:=kf func245 [t11,.aQ 334 [.ref (t0)]] q0 (λa=>jY a.1 a.2.1.1) [] (p_ 4 5 (.j ⟨[.val 8 y0],[0,1,7]⟩ .e)) [E4]
def ua(a:bI)(b:Int):Y Int:=(jY a.gk b).bind some
def Hv:=kf func266 [.ty y25,t0] q0 (u2 ua) [] .e [rD]
def vV(a:Int)(b:Int)(c:Int):Y Bool:=(eD a b).bind λd=>(aO d ((eD a c).bind some)).bind some
def D3:=kf func267 [t0,.ref (t0),.ref (t0)] q1 (u3 vV) [] .e [fO]
def jZ(b:Z Int)(c:Int)(d:Int):Y Int:=aE (λ(a:Int×Unit)=>bif decide (a.1<(b.length:Int))then(idx b a.1).bind λe=>(vV e c d).bind λf=>bif f then oR (some a.1)else some (inl ((aC .i64 a.1 1),()))else oR (some (-1:Int))) (0,())
def rE:=kf func245 [t11,.aQ 267 [.ref (t0),.ref (t0)]] q0 (λa=>jZ a.1 a.2.1.1 a.2.1.2.1) [] (p_ 4 5 (.j ⟨[.val 8 y0],[0,1,7]⟩ .e)) [D3]
def iQ(a:Z Int)(b:Int)(c:Int):Y Bool:=(jZ a b c).bind λd=>some (decide (0<=d))
def ph:=kf func183 [t11,.aQ 267 [.ref (t0),.ref (t0)]] q1 (λa=>iQ a.1 a.2.1.1 a.2.1.2.1) [] .e [rE]
def yO(a:bI)(b:Int)(c:Int):Y Bool:=(gX b).bind λd=>(oO (!d) ((gX c).bind λe=>some (!e))).bind λf=>(oO f ((ua a b).bind λg=>some (decide (g<0)))).bind λh=>(oO h ((ua a c).bind λi=>some (decide (i<0)))).bind λj=>bif j then some false else(iQ a.gk b c).bind λk=>some (!k)
def Gn:=kf func204 [.ty y25,t0,t0] q1 (u3 yO) [] .e [tI,Hv,ph]
def sL(a:bA)(b:bI):Y Bool:=(yO b a.Df a.To).bind some
def yy:=kf func203 [.ty y15,.ref (.ty y25)] q1 (u2 sL) [] .e [Gn]
def fx(c:Z bA)(d:bI):Y Int:=aE (λ(b:Int×Unit)=>bif decide (b.1<(c.length:Int))then(idx c b.1).bind λa=>(sL {a with ak:={a.ak with ai:={a.ak.ai with ae:=(af a.ak.ai.ae)},ah:=(eT1 a.ak.ah)}} d).bind λe=>bif e then oR (some b.1)else some (inl ((aC .i64 b.1 1),()))else oR (some (-1:Int))) (0,())
def kM:=kf func265 [.ty y26,.aQ 203 [.ref (.ty y25)]] q0 (λa=>fx a.1 a.2.1.1) [] (p_ 4 5 (.j ⟨[.val 8 y0],[0,1,7]⟩ .e)) [yy]
def ny(a:aA)(b:Int):Y Int:=(bX a.aF b).bind some
def BW:=kf func336 [.ty y16,t0] q0 (u2 ny) [] .e [fm]
def dv(b:Z aA)(c:Int):Y (Int×Bool×Unit):=aE (λ(a:Int×Int×Unit)=>bif decide (a.1<a.2.1)then(idx b (bB .i64 (iI .u64 (bB .u64 (aC .i64 a.1 a.2.1)) 1))).bind λd=>(ny {d with ae:=(af d.ae)} c).bind λf=>bif decide (f<0)then some (inl ((aC .i64 (bB .i64 (iI .u64 (bB .u64 (aC .i64 a.1 a.2.1)) 1)) 1),a.2.1,()))else some (inl (a.1,(bB .i64 (iI .u64 (bB .u64 (aC .i64 a.1 a.2.1)) 1)),()))else oR ((aO (decide (a.1<(b.length:Int))) ((idx b a.1).bind λe=>(ny {e with ae:=(af e.ae)} c).bind λg=>some (decide (g=0)))).bind λh=>some (a.1,h,()))) (0,(b.length:Int),())
def fU:=kf func335 [.ty y27,t0,.aQ 336 []] (.many [y0,y1]) (λa=>dv a.1 a.2.1) [] (p_ 5 7 (.j ⟨[.val 9 y0,.val 10 y0],[0,1,2,8]⟩ .e)) [BW]
noncomputable def fu(s:Z aA)(a:Int)(b:Z aA):Y (Z aA):=CM 120 s a b
noncomputable def kL:KS U prog:=⟨.cw 338 52 7 y16 [t0,.ty y27] λs a=>fu s a.1 a.2.1,JD JH.ways JH.enters (λx=>K.len (y16) x)⟩
noncomputable def gV(b:Z C)(c:Z C):Y Bool:=bif (!decide ((b.length:Int)=(c.length:Int)))then some false else aE (λ(a:Int×Unit)=>bif decide (a.1<(b.length:Int))then(idx b a.1).bind λd=>(idx c a.1).bind λe=>bif (!decide (d=e))then oR (some false)else some (inl ((aC .i64 a.1 1),()))else oR (some true)) (0,())
def tF:=kf func374 [t13,t13] q1 (u2 gV) [] (p_ 5 11 (.j ⟨[.val 13 y0],[0,1,12]⟩ .e)) []
def jT(b:aD)(d:aD):Y aD:=(mP (eT0 d)).bind λa=>aX (λ(e:aD×Unit)=>(kV (eT0 e.1)).bind λf=>some (eT0 f)) λc=>(ez (af b.ae) (af a.ae)).bind λg=>(oO (!g) ((gV b.du a.du).bind λh=>some (!h))).bind λi=>(oO i ((gV b.bL a.bL).bind λj=>some (!j))).bind λk=>bif k then c ({a with c6:=(aC .i64 a.c6 1),ae:=(af a.ae)},())else c ((eT0 a),())
def nh:=kf func339 [t8,t8] (.one y8) (u2 jT) [] (p_ 2 3 (.j ⟨[.box 1 1 y8 []],[3,4]⟩ .e)) [si,eV,tF,oh]
def vU(a:aD)(b:aA):Y (aD×Int×Unit):=(iw (eT0 a)).bind λk=>(oO (!k) ((oG {b with ae:=(af b.ae)}).bind λl=>some (!l))).bind λm=>(oO m (some (decide (b.aF=a.aF)))).bind λn=>bif n then some (zz2,1,())else(dv a.bn b.aF).bind λc=>aX (λ(o:Bool×Unit)=>bif o.1 then some (zz2,9,())else(cj a.bn).bind λe=>aX (λ(f:aD×Z aA×Unit)=>(jT (eT0 a) {f.1 with ae:=(af f.1.ae),bn:=f.2.1}).bind λg=>some ((eT0 g),0,())) λd=>bif c.2.1 then(idx e c.1).bind λp=>(e[(toNat c.1)]?).bind λq=>d ({a with ae:=(af a.ae),bn:=[]},(e.set (toNat c.1) {b with ae:=(af b.ae)}),())else(fu e c.1 [{b with ae:=(af b.ae)}]).bind λh=>d ({a with ae:=(af a.ae),bn:=[]},h,())) λj=>bif c.2.1 then(idx a.bn c.1).bind λi=>j ((decide (b.c6<=i.c6)),())else j (false,())
def DZ:=kf func270 [t8,.ty y16] (.many [y8,y0]) (u2 vU) [] (p_ 3 7 (.b (.j ⟨[.val 44 y1],[2,3,4,6,7]⟩ .e) (p_ 2 3 (.j ⟨[.box 30 1 y8 [(11,34,2)],.bQ 34 2 false 52 7 y16],[2,4,8]⟩ (p_ 2 1 (.g [(0,.ps (.tP 8 11))])))))) [kP,uE,fU,dO,kL,nh]
noncomputable def nI(s:ba)(c:aD)(a:Int):Y (Int×ba):=aX (λ(d:ba×Unit)=>some (a,(eT5 d.1))) λb=>bif decide (a=0)then b ({s with aP:=(eT0 c),aa:=(eT2 s.aa)},())else b ((eT5 s),())
def se:=kr func271 0 y5 [t8,t0] q0 (λs a=>nI s a.1 a.2.1) [] (.r (.j ⟨[.box 0 0 y5 []],[2]⟩ .e)) []
def u0(s:ba)(a:aA):Y (Int×ba):=(vU (eT0 s.aP) {a with ae:=(af a.ae)}).bind λb=>(nI (eT5 s) (eT0 b.1) b.2.1).bind λc=>some (c.1,(eT5 c.2))
def Cy:=kr func269 0 y5 [.ref (.ty y16)] q0 (λs a=>u0 s a.1) [] .e [DZ,se]
def uY(b:ba)(c:aA):Y (ba×Int×Unit):=(ir (eT5 b)).bind λd=>bif (!d)then some (zz11,13,())else(iM (eT5 b)).bind λe=>(u0 (eT5 e) {c with ae:=(af c.ae)}).bind λa=>bif (!decide (a.1=0))then some (zz11,a.1,())else(gM (eT5 a.2)).bind λf=>some ((eT5 f),0,())
def Cw:=kf func236 [t5,.aQ 269 [.ref (.ty y16)]] (.many [y5,y0]) (λa=>uY a.1 a.2.1.1) [] .e [jE,kC,Cy,iJ]
def xO(c:ba)(a:aA):Y (ba×Int×Unit):=(uY (eT5 c) {a with ae:=(af a.ae)}).bind λb=>some ((eT5 b.1),b.2.1,())
def EX:=kf func207 [t5,.ty y16] (.many [y5,y0]) (u2 xO) [3] .e [Cw]
def pX(c:ba)(a:aN):Y (ba×Int×Unit):=(xO (eT5 c) {a.ai with ae:=(af a.ai.ae)}).bind λb=>some ((eT5 b.1),b.2.1,())
def zq:=kf func206 [t5,.ref (.ty y22)] (.many [y5,y0]) (u2 pX) [] .e [EX]
noncomputable def wc(a:ao)(b:ao):Y Bool:=some (decide (a.aF=b.aF))
def Ea:=kf func376 [t7,.ref (t7)] q1 (u2 wc) [] .e []
def eQ(b:Z ao)(c:ao):Y Int:=aE (λ(a:Int×Unit)=>bif decide (a.1<(b.length:Int))then(idx b a.1).bind λd=>(wc (eT1 d) (eT1 c)).bind λe=>bif e then oR (some a.1)else some (inl ((aC .i64 a.1 1),()))else oR (some (-1:Int))) (0,())
def jx:=kf func375 [t17,.aQ 376 [.ref (t7)]] q0 (λa=>eQ a.1 a.2.1.1) [] (p_ 4 5 (.j ⟨[.val 8 y0],[0,1,7]⟩ .e)) [Ea]
noncomputable def wb(a:ao)(b:ao):Y Bool:=some (decide (b.aF<a.aF))
def D9:=kf func377 [t7,.ref (t7)] q1 (u2 wb) [] .e []
def eP(b:Z ao)(c:ao):Y Int:=aE (λ(a:Int×Unit)=>bif decide (a.1<(b.length:Int))then(idx b a.1).bind λd=>(wb (eT1 d) (eT1 c)).bind λe=>bif e then oR (some a.1)else some (inl ((aC .i64 a.1 1),()))else oR (some (-1:Int))) (0,())
def jw:=kf func375 [t17,.aQ 377 [.ref (t7)]] q0 (λa=>eP a.1 a.2.1.1) [] (p_ 4 5 (.j ⟨[.val 8 y0],[0,1,7]⟩ .e)) [D9]
noncomputable def gp(s:Z ao)(a:Int)(b:Z ao):Y (Z ao):=CM 176 s a b
noncomputable def mj:KS U prog:=⟨.cw 378 48 15 y7 [t0,t17] λs a=>gp s a.1 a.2.1,JD JG.ways JG.enters (λx=>K.len (y7) x)⟩
def yT(i:Z ao)(h:ao):Y ((Z ao)×Bool×Unit):=(eN i).bind λa=>(dg (eT1 h)).bind λj=>bif (!j)then some (a,false,())else(lJ (eT1 h)).bind λc=>(eQ a (eT1 c)).bind λb=>bif decide (0<=b)then(idx a b).bind λl=>(a[(toNat b)]?).bind λm=>(a[(toNat b)]?).bind λk=>bif decide (c.c6<=k.c6)then some (a,false,())else(idx a b).bind λn=>(a[(toNat b)]?).bind λo=>some ((a.set (toNat b) (eT1 c)),true,())else(eP a (eT1 c)).bind λd=>aX (λ(f:Int×Unit)=>(gp a f.1 [(eT1 c)]).bind λg=>some (g,true,())) λe=>bif decide (d<0)then e ((a.length:Int),())else e (d,())
def Gt:=kf func341 [t17,t7] (.many [y17,y1]) (u2 yT) [] (p_ 6 63 (.j ⟨[.val 8 y0],[3,6]⟩ .e)) [gz,dE,pt,jx,jw,mj]
def th(s:av)(a:ao):Y (Int×av):=aX (λ(d:Bool×Unit)=>bif d.1 then some (61,(av.mk (eT2 s.aa)))else(yT s.aa.bn (eT1 a)).bind λc=>bif (!c.2.1)then some (9,(av.mk (eT2 s.aa)))else some (0,(av.mk {s.aa with ae:=(af s.aa.ae),bn:=c.1}))) λb=>(dg (eT1 a)).bind λe=>bif (!e)then b (true,())else bif decide (a.aF=s.aa.aF)then b (true,())else b ((!decide (a.bt=s.aa.bt)),())
def BZ:=kr func340 0 y10 [.ref (t7)] q0 (λs a=>th s a.1) [] (p_ 2 1 (.j ⟨[.val 28 y1],[0,1]⟩ .e)) [dE,Gt]
def ri(b:aW)(i:ao):Y (aW×Int×Unit):=(fB (eT2 b)).bind λj=>bif (!j)then some (zz1,13,())else(gY (eT2 b)).bind λk=>(th (av.mk (eT2 k)) (eT1 i)).bind λc=>bif (!decide (c.1=0))then some (zz1,c.1,())else(eW (av.mk (eT2 c.2.aa))).bind λa=>aX (λ(l:av×Unit)=>some ((eT2 l.1.aa),0,())) λg=>aX (λ(m:Bool×Unit)=>bif m.1 then g ((av.mk {a.2.aa with c6:=(rY (aC .i64 a.2.aa.c6 1) 1000000),ae:=(af a.2.aa.ae)}),())else g ((av.mk (eT2 a.2.aa)),())) λh=>(aU b.aG).bind λn=>bif (!n)then(cx (eT2 b)).bind λd=>(cx (eT2 a.2.aa)).bind λe=>(mf (eT1 d) (eT1 e)).bind λf=>h ((!f),())else h (false,())
def z7:=kf func314 [t9,.aQ 340 [.ref (t7)]] (.many [y9,y0]) (λa=>ri a.1 a.2.1.1) [] (p_ 5 31 (.j ⟨[.box 9 1 y10 []],[4,6]⟩ (.l (.j ⟨[.val 39 y1],[4,6]⟩ .e)))) [gy,jF,BZ,gw,bj,eI,oU]
def vX(b:aW)(c:ao):Y (aW×Int×Unit):=(ri (eT2 b) (eT1 c)).bind λa=>some ((eT2 a.1),a.2.1,())
def D5:=kf func273 [t9,t7] (.many [y9,y0]) (u2 vX) [3] .e [z7]
def vO(s:ba)(c:ao):Y (Int×ba):=(vX (eT2 s.aa) (eT1 c)).bind λa=>(mV (eT5 s) (eT2 a.1) a.2.1).bind λb=>some (b.1,(eT5 b.2))
def DR:=kr func272 0 y5 [.ref (t7)] q0 (λs a=>vO s a.1) [] .e [D5,qi]
def uX(b:ba)(c:ao):Y (ba×Int×Unit):=(ir (eT5 b)).bind λd=>bif (!d)then some (zz11,13,())else(iM (eT5 b)).bind λe=>(vO (eT5 e) (eT1 c)).bind λa=>bif (!decide (a.1=0))then some (zz11,a.1,())else(gM (eT5 a.2)).bind λf=>some ((eT5 f),0,())
def Cv:=kf func236 [t5,.aQ 272 [.ref (t7)]] (.many [y5,y0]) (λa=>uX a.1 a.2.1.1) [] .e [jE,kC,DR,iJ]
def yL(b:ba)(c:ao):Y (ba×Int×Unit):=(uX (eT5 b) (eT1 c)).bind λa=>some ((eT5 a.1),a.2.1,())
def Gi:=kf func209 [t5,t7] (.many [y5,y0]) (u2 yL) [3] .e [Cv]
def pW(b:ba)(c:aN):Y (ba×Int×Unit):=(yL (eT5 b) (eT1 c.ah)).bind λa=>some ((eT5 a.1),a.2.1,())
def zo:=kf func208 [t5,.ref (.ty y22)] (.many [y5,y0]) (u2 pW) [] .e [Gi]
noncomputable def vo:SA U:=bc (aT prog 23 [] f168) (.r (.r (.b (.i 1 163 12 [.cell 2 (some 6)] (bc (aT prog 12 [] f163) .e) [] []) (.r (.l (.l (.i 1 205 30 [.tmp 4] (bc (aT prog 30 [] f205) (.r (.r (.r (.l (.i 5 172 56 [.tmp 10] (bc (aT prog 56 [] f172) (.r (.b (.j ⟨[.val 11 y0,.box 1 1 y6 [(5,15,2)],.bQ 15 2 false 117 37 y5],[0,1,4]⟩ (.l (.i 4 170 57 [.tmp 8] (bc (aT prog 57 [] f170) (.r (.b (.i 2 233 14 [.tmp 4,.tmp 5] (bc (aT prog 14 [] f233) .e) [] []) (.r (.r (.j ⟨[.box 1 1 y6 [(5,15,2)],.bQ 15 2 false 117 37 y5],[12]⟩ .e)))))) [] []))) (.b (.i 2 233 14 [.tmp 4,.tmp 5] (bc (aT prog 14 [] f233) .e) [] []) (.r (.j ⟨[.bQ 15 2 true 117 37 y5],[15]⟩ .e)))))) [] [])))))) [] [])))))))
def nN(d:ay)(b:aN)(D:Int):Y (ay×Int×Unit):=(dy (eT3 d)).bind λE=>bif (!E)then some (zz3,13,())else(bG (af d.ae)).bind λf=>(cF d.b0).bind λe=>bif d.lW then some ({d with ae:=(af f),b0:=e},0,())else bif decide (b.cQ=1)then aX (λ(c:Int×ay×Z ba×Unit)=>(aO (!decide (c.1=0)) (some (!decide (c.1=6)))).bind λF=>bif F then bif (!decide (c.1=0))then some (zz3,c.1,())else some ({c.2.1 with ae:=(af c.2.1.ae),b0:=c.2.2.1},0,())else(a8 c.2.2.1 b.bt).bind λo=>(idx c.2.2.1 o.1).bind λM=>(c.2.2.1[(toNat o.1)]?).bind λG=>(pX (eT5 G) {b with ai:={b.ai with ae:=(af b.ai.ae)},ah:=(eT1 b.ah)}).bind λh=>aX (λ(v:(Z ba)×Unit)=>bif (!decide (h.2.1=0))then some (zz3,h.2.1,())else some ({c.2.1 with ae:=(af c.2.1.ae),b0:=v.1},0,())) λp=>bif decide (h.2.1=0)then(idx c.2.2.1 o.1).bind λH=>(c.2.2.1[(toNat o.1)]?).bind λI=>p ((c.2.2.1.set (toNat o.1) (eT5 h.1)),())else p (c.2.2.1,())) λw=>(a8 e b.bt).bind λq=>bif q.2.1 then w (6,{d with ae:=(af f),b0:=[]},e,())else bif decide ((e.length:Int)=8)then w (3,{d with ae:=(af f),b0:=[]},e,())else(sE d.aF b.bt (af f) (ByteArray.mk #[48]) D).bind λj=>aX (λ(k:ay×Z ba×Unit)=>w (j.2.1,{k.1 with ae:=(af k.1.ae),b0:=[]},k.2.1,())) λr=>bif decide (j.2.1=0)then(dn e q.1 [(eT5 j.1)]).bind λx=>r ({d with ae:=(af f),b0:=[]},x,())else r ({d with ae:=(af f),b0:=[]},e,())else(aO (decide (b.cQ=2)) (some (decide (b.bt=b.ah.bt)))).bind λy=>bif y then aX (λ(a:Int×ay×Z ba×Unit)=>(aO (!decide (a.1=0)) (some (!decide (a.1=6)))).bind λz=>bif z then bif (!decide (a.1=0))then some (zz3,a.1,())else some ({a.2.1 with ae:=(af a.2.1.ae),b0:=a.2.2.1},0,())else(a8 a.2.2.1 b.bt).bind λg=>(idx a.2.2.1 g.1).bind λJ=>(a.2.2.1[(toNat g.1)]?).bind λA=>(pW (eT5 A) {b with ai:={b.ai with ae:=(af b.ai.ae)},ah:=(eT1 b.ah)}).bind λi=>aX (λ(B:(Z ba)×Unit)=>bif (!decide (i.2.1=0))then some (zz3,i.2.1,())else some ({a.2.1 with ae:=(af a.2.1.ae),b0:=B.1},0,())) λs=>bif decide (i.2.1=0)then(idx a.2.2.1 g.1).bind λK=>(a.2.2.1[(toNat g.1)]?).bind λL=>s ((a.2.2.1.set (toNat g.1) (eT5 i.1)),())else s (a.2.2.1,())) λl=>(a8 e b.bt).bind λt=>bif t.2.1 then l (6,{d with ae:=(af f),b0:=[]},e,())else bif decide ((e.length:Int)=8)then l (3,{d with ae:=(af f),b0:=[]},e,())else(sE d.aF b.bt (af f) (ByteArray.mk #[48]) D).bind λm=>aX (λ(n:ay×Z ba×Unit)=>l (m.2.1,{n.1 with ae:=(af n.1.ae),b0:=[]},n.2.1,())) λu=>bif decide (m.2.1=0)then(dn e t.1 [(eT5 m.1)]).bind λC=>u ({d with ae:=(af f),b0:=[]},C,())else u ({d with ae:=(af f),b0:=[]},e,())else some (zz3,1,())
noncomputable def wD:KS U prog:=⟨.fn 168 [t6,.aQ 205 [.ref (.ty y22),.ref (t0)]] (.many [y6,y0]) λa=>nN a.1 a.2.1.1 a.2.1.2.1,Fk (K:=K) vo 23 [.cell 4 (some 6),.tmp 5] [dV,bZ,de,db,AY,fE,zq,zo] [(163,12,(aT prog 12 [] f163),[.cell 2 (some 6)]),(205,30,(aT prog 30 [] f205),[.tmp 4]),(172,56,(aT prog 56 [] f172),[.tmp 10]),(170,57,(aT prog 57 [] f170),[.tmp 8]),(233,14,(aT prog 14 [] f233),[.tmp 4,.tmp 5]),(233,14,(aT prog 14 [] f233),[.tmp 4,.tmp 5])] ⟨fk f163 [] func163,⟨fk f205 [] func205,⟨fk f172 [] func172,⟨fk f170 [] func170,⟨fk f233 [] func233,⟨fk f233 [] func233,trivial⟩⟩⟩⟩⟩⟩ (fk f168 [] func168)⟩
def vb(c:ay)(a:aN)(d:Int):Y (ay×Int×Unit):=(nN (eT3 c) {a with ai:={a.ai with ae:=(af a.ai.ae)},ah:=(eT1 a.ah)} d).bind λb=>some ((eT3 b.1),b.2.1,())
def CC:=kf func137 [t6,.ty y22,t0] (.many [y6,y0]) (u3 vb) [4,5] .e [wD]
def vT(a:aD):Y (aD×Int×Unit):=(iw (eT0 a)).bind λb=>bif (!b)then some (zz2,1,())else bif decide (a.Round=1000)then some (zz2,3,())else(jT (eT0 a) {a with Round:=(aC .i64 a.Round 1),ae:=(af a.ae)}).bind λc=>some ((eT0 c),0,())
def DY:=kf func342 [t8] (.many [y8,y0]) (u1 vT) [] .e [kP,nh]
def Dg(s:ba)(b:Int):Y ((Unit)×ba):=(oO (decide (0<(s.aP.dm.length:Int))) (some (decide (b<s.Next)))).bind λd=>bif d then some ((()),(eT5 s))else(vT (eT0 s.aP)).bind λc=>(nI (eT5 s) (eT0 c.1) c.2.1).bind λa=>(ql (rY (aC .i64 a.2.Round 1) 1000)).bind λe=>(gM (ba.mk (eT0 a.2.aP) (eT2 a.2.aa) a.2.Timer (rY (aC .i64 a.2.Round 1) 1000) (aC .i64 b e) a.2.FC a.2.Value)).bind λf=>some ((()),(eT5 f))
def Jz:=kr func275 0 y5 [t0] (.many []) (λs a=>Dg s a.1) [] .e [DY,se,vt,iJ]
def pD(a:aW):Y (ao×Bool×Unit):=(aU a.aG).bind λb=>(oO b ((fB (eT2 a)).bind λc=>some (!c))).bind λd=>bif d then some (zz6,false,())else(gY (eT2 a)).bind λe=>(cx (eT2 e)).bind λf=>some ((eT1 f),true,())
def vG:=kf func281 [t9] (.many [y7,y1]) (u1 pD) [] .e [bj,gy,jF,eI]
def s9(a:cg)(b:ao):Y Bool:=(kv (cg.mk (eT1 a.ah))).bind λc=>some (decide (b.aG.al<=c))
def BR:=kf func382 [t19,.ref (t7)] q1 (u2 s9) [] .e [o7]
def pa(c:eM)(e:ao):Y Int:=aE (λ(a:Int×Int×Unit)=>bif decide (a.2.1<(c.bn.length:Int))then aX (λ(f:Int×Unit)=>some (inl (f.1,(aC .i64 a.2.1 1),()))) λd=>(idx c.bn a.2.1).bind λb=>(s9 (cg.mk (eT1 b.ah)) (eT1 e)).bind λg=>bif g then if b.ah.aF<0 then none else d ((vB .i64 a.1 (dJ .i64 1 b.ah.aF)),())else d (a.1,())else oR (some a.1)) (0,0,())
def yj:=kf func381 [t18,.aQ 382 [.ref (t7)]] q0 (λa=>pa a.1 a.2.1.1) [] (p_ 5 11 (.j ⟨[.val 5 y0,.val 11 y0],[1,9,10]⟩ (p_ 3 6 (.j ⟨[.val 5 y0],[1,9,10,11]⟩ .e)))) [BR]
def vL(a:aW):Y Bool:=(pD (eT2 a)).bind λb=>(oO (!b.2.1) (some (decide (a.eo=3)))).bind λe=>bif e then some false else(di a.bn).bind λc=>bif bp 176 (c.length+List.length [(eT1 b.1)])then(gW a.aF (af a.ae) (c++[(eT1 b.1)])).bind λd=>(pa d (eT1 b.1)).bind λf=>(k7 d.View f).bind λg=>(eD g a.aF).bind some else none
def DO:=kf func343 [t9] q1 (u1 vL) [28] .e [vG,gu,jy,yj,oq,fO]
def BK(b:gB)(a:aW)(c:Int):Y (gB×Bool×Unit):=(tX b).bind λd=>(oO (!d) (some (decide (c<0)))).bind λe=>(oO e (some (decide (200<c)))).bind λf=>bif f then some ((gB.mk 0 (-1:Int)),false,())else(vL (eT2 a)).bind λg=>bif (!g)then some ((gB.mk a.aG.al (-1:Int)),false,())else(oO (decide (b.tq=(-1:Int))) (some (!decide (b.al=a.aG.al)))).bind λh=>bif h then(ql a.aG.al).bind λi=>some ((gB.mk a.aG.al (aC .i64 c i)),false,())else bif decide (b.tq<=c)then some ((gB.mk a.aG.al (-1:Int)),true,())else some (b,false,())
def IL:=kf func276 [.ty (Ty.st .Timer),t9,t0] (.many [(Ty.st .Timer),y1]) (u3 BK) [] .e [zP,DO,vt]
def tf(s:av):Y (Int×av):=(oO (decide (s.aa.eo=3)) ((fK (av.mk (eT2 s.aa))).bind λa=>some (decide (a=bE)))).bind λb=>bif b then some (62,(av.mk (eT2 s.aa)))else bif decide (1000<=s.aa.aG.al)then some (3,(av.mk (eT2 s.aa)))else(fK (av.mk (eT2 s.aa))).bind λc=>(iG (av.mk (eT2 s.aa)) (aj.mk (aC .i64 s.aa.aG.al 1) c)).bind λd=>some (0,(av.mk (eT2 d.2.aa)))
def BY:=kr func344 0 y10 [] q0 (λs a=>tf s) [] .e [lq,lP]
def rh(b:aW):Y (aW×Int×Unit):=(fB (eT2 b)).bind λi=>bif (!i)then some (zz1,13,())else(gY (eT2 b)).bind λj=>(tf (av.mk (eT2 j))).bind λc=>bif (!decide (c.1=0))then some (zz1,c.1,())else(eW (av.mk (eT2 c.2.aa))).bind λa=>aX (λ(k:av×Unit)=>some ((eT2 k.1.aa),0,())) λg=>aX (λ(l:Bool×Unit)=>bif l.1 then g ((av.mk {a.2.aa with c6:=(rY (aC .i64 a.2.aa.c6 1) 1000000),ae:=(af a.2.aa.ae)}),())else g ((av.mk (eT2 a.2.aa)),())) λh=>(aU b.aG).bind λm=>bif (!m)then(cx (eT2 b)).bind λd=>(cx (eT2 a.2.aa)).bind λe=>(mf (eT1 d) (eT1 e)).bind λf=>h ((!f),())else h (false,())
def z6:=kf func314 [t9,.aQ 344 []] (.many [y9,y0]) (λa=>rh a.1) [] (p_ 5 31 (.j ⟨[.box 9 1 y10 []],[4,6]⟩ (.l (.j ⟨[.val 39 y1],[4,6]⟩ .e)))) [gy,jF,BY,gw,bj,eI,oU]
def vW(b:aW):Y (aW×Int×Unit):=(rh (eT2 b)).bind λa=>some ((eT2 a.1),a.2.1,())
def D4:=kf func277 [t9] (.many [y9,y0]) (u1 vW) [] .e [z6]
def EC(e:ba)(b:Int):Y (ba×Int×Unit):=(ir (eT5 e)).bind λh=>bif (!h)then some (zz11,13,())else(vw b).bind λi=>bif (!i)then some (zz11,1,())else(iM (eT5 e)).bind λj=>(Dg (eT5 j) b).bind λa=>(BK a.2.Timer (eT2 a.2.aa) b).bind λc=>aX (λ(k:ba×Unit)=>some ((eT5 k.1),0,())) λf=>bif c.2.1 then(vW (eT2 a.2.aa)).bind λg=>(mV {a.2 with aP:=(eT0 a.2.aP),aa:=(eT2 a.2.aa),Timer:=c.1} (eT2 g.1) g.2.1).bind λl=>(gM (eT5 l.2)).bind λd=>f ((eT5 d),())else f ({a.2 with aP:=(eT0 a.2.aP),aa:=(eT2 a.2.aa),Timer:=c.1},())
def KI:=kf func213 [t5,t0] (.many [y5,y0]) (u2 EC) [] (p_ 6 63 (.j ⟨[.box 0 1 y5 []],[2,4]⟩ .e)) [jE,BH,kC,Jz,IL,D4,qi,iJ]
def pV(b:ba)(c:Int):Y (ba×Int×Unit):=(EC (eT5 b) c).bind λa=>some ((eT5 a.1),a.2.1,())
def zn:=kf func212 [t5,.ref (t0)] (.many [y5,y0]) (u2 pV) [] .e [KI]
noncomputable def vn:SA U:=bc (aT prog 23 [] f168) (.r (.r (.b (.i 1 163 12 [.cell 2 (some 6)] (bc (aT prog 12 [] f163) .e) [] []) (.r (.l (.l (.i 1 210 7 [.tmp 3] (bc (aT prog 7 [] f210) (.r (.l (.i 2 211 36 [.tmp 4] (bc (aT prog 36 [] f211) (.r (.l (.r (.l (.j ⟨[.val 14 y0,.own 12 15 1 true 117 37 y5],[0,1,13]⟩ .e)))))) [] [])))) [] [])))))))
def nM(b:ay)(f:Int):Y (ay×Int×Unit):=(dy (eT3 b)).bind λg=>bif (!g)then some (zz3,13,())else(bG (af b.ae)).bind λd=>(cF b.b0).bind λe=>bif b.lW then some ({b with ae:=(af d),b0:=e},0,())else aE (λ(a:Int×Z ba×Unit)=>bif decide (a.1<(e.length:Int))then(idx a.2.1 a.1).bind λi=>(a.2.1[(toNat a.1)]?).bind λh=>(pV (eT5 h) f).bind λc=>bif (!decide (c.2.1=0))then oR (bif (!decide (c.2.1=0))then some (zz3,c.2.1,())else some ({b with ae:=(af d),b0:=a.2.1},0,()))else(idx a.2.1 a.1).bind λj=>(a.2.1[(toNat a.1)]?).bind λk=>some (inl ((aC .i64 a.1 1),(a.2.1.set (toNat a.1) (eT5 c.1)),()))else oR (some ({b with ae:=(af d),b0:=a.2.1},0,()))) (0,e,())
noncomputable def wC:KS U prog:=⟨.fn 168 [t6,.aQ 210 [.ref (t0)]] (.many [y6,y0]) λa=>nM a.1 a.2.1.1,Fk (K:=K) vn 23 [.cell 4 (some 6),.tmp 5] [dV,bZ,de,zn] [(163,12,(aT prog 12 [] f163),[.cell 2 (some 6)]),(210,7,(aT prog 7 [] f210),[.tmp 3]),(211,36,(aT prog 36 [] f211),[.tmp 4])] ⟨fk f163 [] func163,⟨fk f210 [] func210,⟨fk f211 [] func211,trivial⟩⟩⟩ (fk f168 [] func168)⟩
def u7(b:ay)(c:Int):Y (ay×Int×Unit):=(nM (eT3 b) c).bind λa=>some ((eT3 a.1),a.2.1,())
def CA:=kf func140 [t6,t0] (.many [y6,y0]) (u2 u7) [3] .e [wC]
def xR(c:aD):Y aA:=(mQ (eT0 c)).bind λa=>(mR {a with ae:=(af a.ae)}).bind λb=>some {b with ae:=(af b.ae)}
def E3:=kf func280 [t8] (.one y16) (u1 xR) [] .e [qv,sj]
def Au(a:ba):Y (Z aN):=(ir (eT5 a)).bind λh=>bif (!h)then some []else aX (λ(c:(Z aN)×Unit)=>aX (λ(i:(Z aN)×Unit)=>some i.1) λe=>(pD (eT2 a.aa)).bind λd=>bif d.2.1 then bif bp 312 (c.1.length+List.length [(aN.mk 2 a.aa.bt zz7 (eT1 d.1))])then e ((c.1++[(aN.mk 2 a.aa.bt zz7 (eT1 d.1))]),())else none else e (c.1,())) λf=>bif (!a.FC)then(xR (eT0 a.aP)).bind λg=>(jV {g with ae:=(af g.ae)}).bind λb=>bif bp 312 (List.length ([]:Z aN)+List.length [(aN.mk 1 a.aa.bt {b with ae:=(af b.ae)} zz6)])then f ((([]:Z aN)++[(aN.mk 1 a.aa.bt {b with ae:=(af b.ae)} zz6)]),())else none else f ([],())
def Hq:=kf func214 [t5] (.one (Ty.sl (Ty.st .ak))) (u1 Au) [] (p_ 3 7 (.ps (.own 3 54 24 y22) (.j ⟨[.own 3 6 2 false 54 24 y22],[1]⟩ (.r (.j ⟨[.own 3 6 3 false 54 24 y22],[]⟩ .e))))) [jE,E3,nj,vG]
def qW(b:ay):Y (Z aN):=(oO b.lW ((dy (eT3 b)).bind λd=>some (!d))).bind λe=>bif e then some []else aE (λ(a:Int×Z aN×Unit)=>bif decide (a.1<(b.b0.length:Int))then(idx b.b0 a.1).bind λf=>(Au (eT5 f)).bind λc=>bif bp 312 (a.2.1.length+c.length)then some (inl ((aC .i64 a.1 1),(a.2.1++c),()))else none else oR (some a.2.1)) (0,[],())
def zV:=kf func142 [t6] (.one (Ty.sl (Ty.st .ak))) (u1 qW) [] (p_ 6 23 (.ps (.own 3 54 24 y22) (.j ⟨[.val 16 y0,.own 3 14 2 false 54 24 y22],[14,15]⟩ .e))) [dV,Hq]
noncomputable def yN(a:bI)(b:Int)(c:Int):Y Int:=bif decide ((a.gI.length:Int)=0)then some 1 else(idx a.gI (aC .i64 (xr .i64 b 10) c)).bind λd=>some (Cq 1 d)
def Gl:=kf func282 [.ty y25,t0,t0] q0 (u3 yN) [] .e []
def dB(e:Z bA)(b:bA):Y (Int×Bool×Unit):=aE (λ(a:Int×Int×Unit)=>bif decide (a.1<a.2.1)then(idx e (bB .i64 (iI .u64 (bB .u64 (aC .i64 a.1 a.2.1)) 1))).bind λc=>(lI {c with ak:={c.ak with ai:={c.ak.ai with ae:=(af c.ak.ai.ae)},ah:=(eT1 c.ak.ah)}} {b with ak:={b.ak with ai:={b.ak.ai with ae:=(af b.ak.ai.ae)},ah:=(eT1 b.ak.ah)}}).bind λh=>bif decide (h<0)then some (inl ((aC .i64 (bB .i64 (iI .u64 (bB .u64 (aC .i64 a.1 a.2.1)) 1)) 1),a.2.1,()))else some (inl (a.1,(bB .i64 (iI .u64 (bB .u64 (aC .i64 a.1 a.2.1)) 1)),()))else oR (aX (λ(f:Int×Bool×Unit)=>some (f.1,f.2.1,())) λg=>bif decide (a.1<(e.length:Int))then(idx e a.1).bind λd=>(lI {d with ak:={d.ak with ai:={d.ak.ai with ae:=(af d.ak.ai.ae)},ah:=(eT1 d.ak.ah)}} {b with ak:={b.ak with ai:={b.ak.ai with ae:=(af b.ak.ai.ae)},ah:=(eT1 b.ak.ah)}}).bind λi=>g (a.1,(decide (i=0)),())else g (a.1,false,()))) (0,(e.length:Int),())
def gg:=kf func284 [.ty y26,.ty y15,.aQ 120 []] (.many [y0,y1]) (λa=>dB a.1 a.2.1) [] (p_ 3 7 (.b (.l (.j ⟨[.val 9 y0,.val 10 y0],[0,2,4,8]⟩ .e)) (.j ⟨[.val 6 y0,.val 7 y1],[]⟩ .e))) [vE]
noncomputable def hP(s:Z bA)(a:Int)(b:Z bA):Y (Z bA):=CM 344 s a b
noncomputable def nU:KS U prog:=⟨.cw 285 158 28 y15 [t0,.ty y26] λs a=>hP s a.1 a.2.1,JD JI.ways JI.enters (λx=>K.len (y15) x)⟩
def mr(a:ar)(b:eF):Y Bool:=(ez (af a) (af b.ae)).bind some
def uA:=kf func175 [t4,.ref (.ty y23)] q1 (u2 mr) [] .e [eV]
def fQ(c:Z ar)(a:eF):Y Int:=aE (λ(b:Int×Unit)=>bif decide (b.1<(c.length:Int))then(idx c b.1).bind λd=>(mr (af d) {a with ae:=(af a.ae),ak:={a.ak with ai:={a.ak.ai with ae:=(af a.ak.ai.ae)},ah:=(eT1 a.ak.ah)}}).bind λe=>bif e then oR (some b.1)else some (inl ((aC .i64 b.1 1),()))else oR (some (-1:Int))) (0,())
def lE:=kf func192 [t14,.aQ 175 [.ref (.ty y23)]] q0 (λa=>fQ a.1 a.2.1.1) [] (p_ 4 5 (.j ⟨[.val 8 y0],[0,1,7]⟩ .e)) [uA]
def fj(b:Z ar)(a:eF):Y Bool:=(fQ b {a with ae:=(af a.ae),ak:={a.ak with ai:={a.ak.ai with ae:=(af a.ak.ai.ae)},ah:=(eT1 a.ak.ah)}}).bind λc=>some (decide (0<=c))
def kj:=kf func123 [t14,.aQ 175 [.ref (.ty y23)]] q1 (λa=>fj a.1 a.2.1.1) [] .e [lE]
def sI(a:aD)(b:ar):Y (aD×Int×Unit):=(iw (eT0 a)).bind λd=>bif (!d)then some (zz2,1,())else(bF (af b)).bind λc=>bif (!decide (c=0))then some (zz2,c,())else(ez (af a.ae) (af b)).bind λe=>bif e then(kV (eT0 a)).bind λf=>some ((eT0 f),0,())else(jT (eT0 a) {a with ae:=(af b)}).bind λg=>some ((eT0 g),0,())
def A9:=kf func318 [t8,t4] (.many [y8,y0]) (u2 sI) [] .e [kP,bM,eV,oh,nh]
def tj(s:av)(a:ar):Y (Int×av):=(bF (af a)).bind λb=>bif (!decide (b=0))then some (1,(av.mk (eT2 s.aa)))else(bG (af a)).bind λc=>some (0,(av.mk {s.aa with ae:=(af c)}))
def B1:=kr func363 0 y10 [.ref (t4)] q0 (λs a=>tj s a.1) [] .e [bM,bZ]
def ra(b:aW)(i:ar):Y (aW×Int×Unit):=(fB (eT2 b)).bind λj=>bif (!j)then some (zz1,13,())else(gY (eT2 b)).bind λk=>(tj (av.mk (eT2 k)) (af i)).bind λc=>bif (!decide (c.1=0))then some (zz1,c.1,())else(eW (av.mk (eT2 c.2.aa))).bind λa=>aX (λ(l:av×Unit)=>some ((eT2 l.1.aa),0,())) λg=>aX (λ(m:Bool×Unit)=>bif m.1 then g ((av.mk {a.2.aa with c6:=(rY (aC .i64 a.2.aa.c6 1) 1000000),ae:=(af a.2.aa.ae)}),())else g ((av.mk (eT2 a.2.aa)),())) λh=>(aU b.aG).bind λn=>bif (!n)then(cx (eT2 b)).bind λd=>(cx (eT2 a.2.aa)).bind λe=>(mf (eT1 d) (eT1 e)).bind λf=>h ((!f),())else h (false,())
def zZ:=kf func314 [t9,.aQ 363 [.ref (t4)]] (.many [y9,y0]) (λa=>ra a.1 a.2.1.1) [] (p_ 5 31 (.j ⟨[.box 9 1 y10 []],[4,6]⟩ (.l (.j ⟨[.val 39 y1],[4,6]⟩ .e)))) [gy,jF,B1,gw,bj,eI,oU]
def vY(b:aW)(c:ar):Y (aW×Int×Unit):=(ra (eT2 b) (af c)).bind λa=>some ((eT2 a.1),a.2.1,())
def D6:=kf func319 [t9,t4] (.many [y9,y0]) (u2 vY) [3] .e [zZ]
def xP(s:ba)(b:ar):Y (Int×ba):=(sI (eT0 s.aP) (af b)).bind λc=>(nI (eT5 s) (eT0 c.1) c.2.1).bind λa=>bif (!decide (a.1=0))then some (a.1,(eT5 a.2))else(vY (eT2 a.2.aa) (af b)).bind λd=>(mV (eT5 a.2) (eT2 d.1) d.2.1).bind λe=>some (e.1,(eT5 e.2))
def EY:=kr func317 0 y5 [.ref (t4)] q0 (λs a=>xP s a.1) [] .e [A9,se,D6,qi]
def uW(b:ba)(c:ar):Y (ba×Int×Unit):=(ir (eT5 b)).bind λd=>bif (!d)then some (zz11,13,())else(iM (eT5 b)).bind λe=>(xP (eT5 e) (af c)).bind λa=>bif (!decide (a.1=0))then some (zz11,a.1,())else(gM (eT5 a.2)).bind λf=>some ((eT5 f),0,())
def Cu:=kf func236 [t5,.aQ 317 [.ref (t4)]] (.many [y5,y0]) (λa=>uW a.1 a.2.1.1) [] .e [jE,kC,EY,iJ]
def Av(b:ba)(c:ar):Y (ba×Int×Unit):=(uW (eT5 b) (af c)).bind λa=>some ((eT5 a.1),a.2.1,())
def Hr:=kf func242 [t5,t4] (.many [y5,y0]) (u2 Av) [3] .e [Cu]
def nQ(b:ba)(c:ar):Y (ba×Int×Unit):=(Av (eT5 b) (af c)).bind λa=>some ((eT5 a.1),a.2.1,())
def wG:=kf func241 [t5,.ref (t4)] (.many [y5,y0]) (u2 nQ) [] .e [Hr]
noncomputable def vm:SA U:=bc (aT prog 23 [] f168) (.r (.r (.b (.i 1 163 12 [.cell 2 (some 6)] (bc (aT prog 12 [] f163) .e) [] []) (.r (.l (.l (.i 1 240 15 [.tmp 3] (bc (aT prog 15 [] f240) (.r (.r (.r (.l (.i 2 211 36 [.tmp 4] (bc (aT prog 36 [] f211) (.r (.l (.r (.l (.j ⟨[.val 14 y0,.own 12 15 1 true 117 37 y5],[0,1,13]⟩ .e)))))) [] [])))))) [] [])))))))
def nL(b:ay)(d:ar):Y (ay×Int×Unit):=(dy (eT3 b)).bind λg=>bif (!g)then some (zz3,13,())else(bG (af b.ae)).bind λh=>(cF b.b0).bind λe=>bif b.lW then some ({b with ae:=(af h),b0:=e},0,())else(bF (af d)).bind λi=>bif (!decide (i=0))then some (zz3,1,())else(bG (af d)).bind λf=>aE (λ(a:Int×Z ba×Unit)=>bif decide (a.1<(e.length:Int))then(idx a.2.1 a.1).bind λm=>(a.2.1[(toNat a.1)]?).bind λj=>(nQ (eT5 j) (af d)).bind λc=>bif (!decide (c.2.1=0))then oR (bif (!decide (c.2.1=0))then some (zz3,c.2.1,())else some ({b with ae:=(af f),b0:=a.2.1},0,()))else(idx a.2.1 a.1).bind λk=>(a.2.1[(toNat a.1)]?).bind λl=>some (inl ((aC .i64 a.1 1),(a.2.1.set (toNat a.1) (eT5 c.1)),()))else oR (some ({b with ae:=(af f),b0:=a.2.1},0,()))) (0,e,())
noncomputable def wB:KS U prog:=⟨.fn 168 [t6,.aQ 240 [.ref (t4)]] (.many [y6,y0]) λa=>nL a.1 a.2.1.1,Fk (K:=K) vm 23 [.cell 4 (some 6),.tmp 5] [dV,bZ,de,bM,wG] [(163,12,(aT prog 12 [] f163),[.cell 2 (some 6)]),(240,15,(aT prog 15 [] f240),[.tmp 3]),(211,36,(aT prog 36 [] f211),[.tmp 4])] ⟨fk f163 [] func163,⟨fk f240 [] func240,⟨fk f211 [] func211,trivial⟩⟩⟩ (fk f168 [] func168)⟩
def qX(b:ay)(c:ar):Y (ay×Int×Unit):=(nL (eT3 b) (af c)).bind λa=>some ((eT3 a.1),a.2.1,())
def zW:=kf func176 [t6,t4] (.many [y6,y0]) (u2 qX) [3] .e [wB]
noncomputable def za:SA U:=bc (aT prog 27 [] f51) (.r (.r (.b (.i 1 101 16 [.cell 2 (some 8)] (bc (aT prog 16 [] f101) (.r (.l (.i 5 149 16 [.cell 2 (some 4)] (bc (aT prog 16 [] f149) .e) [] [])))) [] []) (.l (.l (.i 2 52 7 [.tmp 3] (bc (aT prog 7 [] f52) (.r (.l (.i 2 53 99 [.tmp 4] (bc (aT prog 99 [] f53) (.r (.r (.r (.l (.r (.l (.r (.b (.i 3 103 43 [.tmp 6] (bc (aT prog 43 [] f103) (.r (.r (.b (.i 10 104 19 [.cell 4 (some 6),.tmp 5] (bc (aT prog 19 [] f104) .e) [] []) (.j ⟨[.bQ 12 1 true 60 6 y6],[8]⟩ .e))))) [] []) (.r (.b (.i 3 103 43 [.tmp 6] (bc (aT prog 43 [] f103) (.r (.r (.b (.i 10 106 19 [.cell 4 (some 6),.tmp 5] (bc (aT prog 19 [] f106) .e) [] []) (.j ⟨[.bQ 12 1 true 60 6 y6],[8]⟩ .e))))) [] []) (.r (.b (.i 2 103 43 [.tmp 6] (bc (aT prog 43 [] f103) (.r (.r (.b (.i 10 108 6 [.cell 2 (some 6),.tmp 3] (bc (aT prog 6 [] f108) .e) [] []) (.j ⟨[.bQ 12 1 true 60 6 y6],[8]⟩ .e))))) [] []) (.r (.b (.r (.i 3 77 15 [.tmp 4] (bc (aT prog 15 [] f77) (.r (.l (.r (.l (.ps (.tP 0 3) (.j ⟨[.val 7 y0,.box 47 1 y24 [(1,12,1),(7,41,1)],.bQ 12 1 true 60 6 y6,.bQ 41 1 true 42 1 y14],[0,6]⟩ (.l (.r (.r (.l (.l (.j ⟨[.val 5 y0,.box 47 1 y24 [(1,12,1),(7,41,1)],.bQ 12 1 true 60 6 y6,.bQ 41 1 true 42 1 y14],[0,6,7]⟩ (.l (.i 1 73 106 [.tmp 2] (bc (aT prog 106 [] f73) (.r (.r (.r (.b (.i 10 136 37 [.tmp 4,.cell 5 (some 4)] (bc (aT prog 37 [] f136) (.r (.b (.i 1 149 16 [.cell 2 (some 4)] (bc (aT prog 16 [] f149) .e) [] []) (.b (.r (.l (.j ⟨[.val 9999 y1],[9999]⟩ .e))) (.r (.ps (.tP 2 0) (.j ⟨[.val 8 y26],[2,5,6]⟩ (.l (.i 6 201 42 [.tmp 4] (bc (aT prog 42 [] f201) (.r (.r (.r (.b (.r (.l (.j ⟨[.val 5 y0,.val 6 y0,.own 0 170 1 true 158 28 y15],[1]⟩ (.l (.r (.j ⟨[.val 5 y0,.own 0 170 1 true 158 28 y15],[1,6]⟩ .e)))))) (.r (.l (.g [(4,.ps (.cut 4))])))))))) [] [(1,.ps (.Al 8))]))))))))) [] []) (.r (.b (.r (.l (.j ⟨[.val 45 y0,.bQ 12 1 true 60 6 y6],[1,43,44]⟩ (.l (.r (.r (.j ⟨[.bQ 12 1 true 60 6 y6],[1,43,44,45]⟩ (.l (.l (.r (.l (.j ⟨[.val 67 y1],[1,6,43,44,45]⟩ .e)))))))))))) (.b (.i 2 138 32 [] (bc (aT prog 32 [] f138) (.r (.l (.j ⟨[.val 11 y0,.bQ 12 1 true 60 6 y6],[0,1,10]⟩ (.l (.r (.r (.j ⟨[.bQ 12 1 true 60 6 y6],[0,1,10,11]⟩ (.l (.l (.r (.r (.l (.i 8 139 22 [] (bc (aT prog 22 [] f139) .e) [] [])))))))))))))) [] []) (.l (.i 2 138 32 [] (bc (aT prog 32 [] f138) (.r (.l (.j ⟨[.val 11 y0,.box 47 1 y24 [(1,12,1),(3,170,2),(7,41,1)],.bQ 12 1 true 60 6 y6,.bQ 41 1 true 42 1 y14,.bQ 170 2 false 158 28 y15],[0,1,10]⟩ (.l (.r (.r (.j ⟨[.box 47 1 y24 [(1,12,1),(3,170,3),(7,41,1)],.bQ 12 1 true 60 6 y6,.bQ 41 1 true 42 1 y14,.bQ 170 3 false 158 28 y15],[0,1,10,11]⟩ (.l (.l (.r (.r (.l (.i 8 141 40 [] (bc (aT prog 40 [] f141) (.r (.l (.j ⟨[.val 11 y0,.box 47 1 y24 [(1,12,1),(3,170,3),(7,41,1)],.bQ 12 1 true 60 6 y6,.bQ 41 1 true 42 1 y14,.bQ 170 3 false 158 28 y15],[0,1,9,10]⟩ (.l (.r (.r (.l (.l (.r (.r (.l (.j ⟨[.val 21 y0,.box 47 1 y24 [(1,12,1),(3,170,4),(7,41,1)],.bQ 12 1 true 60 6 y6,.bQ 41 1 true 42 1 y14,.bQ 170 4 false 158 28 y15],[0,1,4,9,10,11,20]⟩ (.l (.r (.r (.j ⟨[.box 47 1 y24 [(1,12,1),(3,170,5),(7,41,1)],.bQ 12 1 true 60 6 y6,.bQ 41 1 true 42 1 y14,.bQ 170 5 false 158 28 y15],[0,1,4,9,10,11,20,21]⟩ (.l (.l (.r (.r (.l (.i 7 143 22 [.tmp 8] (bc (aT prog 22 [] f143) (.r (.l (.i 12 215 71 [.tmp 10] (bc (aT prog 71 [] f215) .e) [] [])))) [] []))))))))))))))))))))))) [] [])))))))))))))) [] [])))))))))) [] [(1,.ps (.tP 0 3))]))))))))))))))) [] [])) (.r (.b (.i 2 110 105 [.tmp 4] (bc (aT prog 105 [] f110) (.r (.r (.r (.r (.b (.l (.j ⟨[.val 31 y1],[0,3,5,6,7]⟩ (.r (.r (.j ⟨[.val 44 y1],[0,3,5,6,7]⟩ .e))))) (.r (.r (.r (.j ⟨[],[]⟩ .e)))))))))) [] []) (.r (.b (.i 2 111 65 [.tmp 4] (bc (aT prog 65 [] f111) (.r (.l (.j ⟨[.val 30 y1],[0,3]⟩ .e)))) [] []) (.r (.b (.i 8 112 22 [.cell 4 (some 4),.tmp 5] (bc (aT prog 22 [] f112) (.r (.b (.l (.r (.l (.j ⟨[.val 9999 y1],[9999]⟩ .e)))) (.l (.i 1 149 16 [.cell 2 (some 4)] (bc (aT prog 16 [] f149) (.r (.l (.ps (.tP 1 0) .e)))) [] []))))) [] []) (.r (.l (.i 12 113 50 [.cell 8 (some 4),.tmp 9] (bc (aT prog 50 [] f113) (.r (.b (.l (.r (.l (.j ⟨[.val 9999 y1],[9999]⟩ .e)))) (.b (.i 1 149 16 [.cell 2 (some 4)] (bc (aT prog 16 [] f149) (.r (.l (.ps (.tP 1 0) .e)))) [] []) (.j ⟨[.box 108 1 y25 [(0,136,1)],.bQ 136 1 true 158 28 y15],[1,2,3,4,8]⟩ (.l (.r (.l (.g [(3,.ps (.tP 4 3))]))))))))) [] [])))))))))))))))))))))))) [] [])))) [] []))))))
noncomputable def au(a1:eF)(d:Int×cq×Z ay×(Z (Z ar))×Unit):Y ((Int×cq×Z ay×(Z (Z ar))×Unit)⊕(aI×Int×Unit)):=bif decide (d.1<a1.Count)then aX (λ(k:Int×cq×Z ay×(Z (Z ar))×Unit)=>bif (!decide (k.1=0))then oR (bif (!decide (k.1=0))then some (zz5,k.1,())else some ({k.2.1.World with aY:=k.2.2.1,fg:=k.2.2.2.1},0,()))else some (inl ((aC .i64 d.1 1),(cq.mk {k.2.1.World with aY:=[],fg:=[]}),k.2.2.1,k.2.2.2.1,()))) λy=>bif decide (d.2.1.World.Time=200)then y (3,(cq.mk {d.2.1.World with aY:=[],fg:=[]}),d.2.2.1,d.2.2.2.1,())else(dp d.2.1.World.Net.cO).bind λi=>(bz d.2.1.World.Net.gk).bind λo=>(bz d.2.1.World.Net.gI).bind λp=>(kW (bI.mk i d.2.1.World.Net.Next o p)).bind λJ=>bif (!J)then none else(ec i (aC .i64 d.2.1.World.Time 1)).bind λq=>aX (λ(z:(Z bA)×Unit)=>bif eR q.1 (i.length:Int) (i.length)then(dM ((i.take (toNat (i.length:Int))).drop (toNat q.1))).bind λK=>aE (λ(g:Int×Z ay×Unit)=>bif decide (g.1<(z.1.length:Int))then aX (λ(L:(Z ay)×Unit)=>some (inl ((aC .i64 g.1 1),L.1,()))) λs=>(idx z.1 g.1).bind λh=>aX (λ(M:Bool×Unit)=>bif M.1 then s (g.2.1,())else(idx g.2.1 h.To).bind λx51=>(g.2.1[(toNat h.To)]?).bind λN=>(vb (eT3 N) {h.ak with ai:={h.ak.ai with ae:=(af h.ak.ai.ae)},ah:=(eT1 h.ak.ah)} (aC .i64 d.2.1.World.Time 1)).bind λA=>bif decide (A.2.1=0)then(idx g.2.1 h.To).bind λx54=>(g.2.1[(toNat h.To)]?).bind λx55=>s ((g.2.1.set (toNat h.To) (eT3 A.1)),())else s (g.2.1,())) λB=>bif decide ((g.2.1.length:Int)<=h.To)then B (true,())else(eG d.2.1.World.fP h.To).bind λO=>B (O,())else oR (aE (λ(e:Int×Z ay×Unit)=>bif decide (e.1<(g.2.1.length:Int))then aX (λ(P:(Z ay)×Unit)=>some (inl ((aC .i64 e.1 1),P.1,()))) λt=>(eG d.2.1.World.fP e.1).bind λQ=>bif (!Q)then(idx e.2.1 e.1).bind λx61=>(e.2.1[(toNat e.1)]?).bind λx62=>(e.2.1[(toNat e.1)]?).bind λR=>(u7 (eT3 R) (aC .i64 d.2.1.World.Time 1)).bind λC=>bif decide (C.2.1=0)then(e.2.1[(toNat e.1)]?).bind λx65=>(e.2.1[(toNat e.1)]?).bind λx66=>t ((e.2.1.set (toNat e.1) (eT3 C.1)),())else t (e.2.1,())else t (e.2.1,())else oR (aE (λ(c:Int×cq×Z ay×(Z (Z ar))×Z bA×Unit)=>bif decide (c.1<(e.2.1.length:Int))then aX (λ(m:cq×Z ay×(Z (Z ar))×Z bA×Unit)=>some (inl ((aC .i64 c.1 1),(cq.mk (aI.mk m.1.World.Time [] m.1.World.fP {m.1.World.Net with cO:=[]} [])),m.2.1,m.2.2.1,m.2.2.2.1,()))) λD=>(eG c.2.1.World.fP c.1).bind λS=>bif (!S)then(idx c.2.2.1 c.1).bind λx71=>(c.2.2.1[(toNat c.1)]?).bind λx72=>(c.2.2.1[(toNat c.1)]?).bind λT=>(qW (eT3 T)).bind λE=>aE (λ(f:Int×cq×Z ay×(Z (Z ar))×Z bA×Unit)=>bif decide (f.1<(E.length:Int))then(idx E f.1).bind λr=>aE (λ(a:Int×cq×Z ay×(Z (Z ar))×Z bA×Unit)=>bif decide (a.1<(f.2.2.1.length:Int))then aX (λ(n:cq×Z ay×(Z (Z ar))×Z bA×Unit)=>some (inl ((aC .i64 a.1 1),(cq.mk (aI.mk n.1.World.Time [] n.1.World.fP {n.1.World.Net with cO:=[]} [])),n.2.1,n.2.2.1,n.2.2.2.1,()))) λu=>(a.2.2.1[(toNat c.1)]?).bind λx80=>(a.2.2.1[(toNat c.1)]?).bind λx81=>(a.2.2.1[(toNat c.1)]?).bind λV=>bif (!decide (a.1=V.aF))then(a.2.2.1[(toNat c.1)]?).bind λx83=>(a.2.2.1[(toNat c.1)]?).bind λx84=>(a.2.2.1[(toNat c.1)]?).bind λv=>(oO (decide ((a.2.2.2.2.1.length:Int)=4000)) (some (decide (a.2.1.World.Net.Next=1000000000)))).bind λW=>bif W then u ((cq.mk (aI.mk a.2.1.World.Time [] a.2.1.World.fP {a.2.1.World.Net with cO:=[]} [])),a.2.2.1,a.2.2.2.1,a.2.2.2.2.1,())else(yN {a.2.1.World.Net with cO:=a.2.2.2.2.1} v.aF a.1).bind λF=>(sP {r with ai:={r.ai with ae:=(af r.ai.ae)},ah:=(eT1 r.ah)}).bind λl=>(dB a.2.2.2.2.1 (bA.mk (aC .i64 a.2.1.World.Time F) v.aF a.1 a.2.1.World.Net.Next {l with ai:={l.ai with ae:=(af l.ai.ae)},ah:=(eT1 l.ah)})).bind λX=>(hP a.2.2.2.2.1 X.1 [(bA.mk (aC .i64 a.2.1.World.Time F) v.aF a.1 a.2.1.World.Net.Next {l with ai:={l.ai with ae:=(af l.ai.ae)},ah:=(eT1 l.ah)})]).bind λY=>u ((cq.mk (aI.mk a.2.1.World.Time [] a.2.1.World.fP {a.2.1.World.Net with cO:=[],Next:=(aC .i64 a.2.1.World.Net.Next 1)} [])),a.2.2.1,a.2.2.2.1,Y,())else u ((cq.mk (aI.mk a.2.1.World.Time [] a.2.1.World.fP {a.2.1.World.Net with cO:=[]} [])),a.2.2.1,a.2.2.2.1,a.2.2.2.2.1,())else oR (some (inl ((aC .i64 f.1 1),(cq.mk (aI.mk a.2.1.World.Time [] a.2.1.World.fP {a.2.1.World.Net with cO:=[]} [])),a.2.2.1,a.2.2.2.1,a.2.2.2.2.1,())))) (0,(cq.mk (aI.mk f.2.1.World.Time [] f.2.1.World.fP {f.2.1.World.Net with cO:=[]} [])),f.2.2.1,f.2.2.2.1,f.2.2.2.2.1,())else oR (D ((cq.mk (aI.mk f.2.1.World.Time [] f.2.1.World.fP {f.2.1.World.Net with cO:=[]} [])),f.2.2.1,f.2.2.2.1,f.2.2.2.2.1,()))) (0,(cq.mk (aI.mk c.2.1.World.Time [] c.2.1.World.fP {c.2.1.World.Net with cO:=[]} [])),c.2.2.1,c.2.2.2.1,c.2.2.2.2.1,())else D ((cq.mk (aI.mk c.2.1.World.Time [] c.2.1.World.fP {c.2.1.World.Net with cO:=[]} [])),c.2.2.1,c.2.2.2.1,c.2.2.2.2.1,())else oR (y (0,(cq.mk (aI.mk c.2.1.World.Time [] c.2.1.World.fP {c.2.1.World.Net with cO:=c.2.2.2.2.1} [])),c.2.2.1,c.2.2.2.1,()))) (0,(cq.mk (aI.mk (aC .i64 d.2.1.World.Time 1) [] d.2.1.World.fP (bI.mk [] d.2.1.World.Net.Next o p) [])),e.2.1,d.2.2.2.1,K,()))) (0,g.2.1,()))) (0,d.2.2.1,())else none) λG=>bif eR 0 q.1 (i.length)then(dM ((i.take (toNat q.1)).drop (toNat 0))).bind λw=>(fx w (bI.mk i d.2.1.World.Net.Next o p)).bind λx=>bif decide (x=(-1:Int))then G (w,())else aE (λ(b:Int×Int×Z bA×Unit)=>bif decide (b.2.1<(b.2.2.1.length:Int))then aX (λ(H:Int×Z bA×Unit)=>some (inl (H.1,(aC .i64 b.2.1 1),H.2.1,()))) λI=>(idx b.2.2.1 b.2.1).bind λx96=>(b.2.2.1[(toNat b.2.1)]?).bind λj=>(sL {j with ak:={j.ak with ai:={j.ak.ai with ae:=(af j.ak.ai.ae)},ah:=(eT1 j.ak.ah)}} (bI.mk i d.2.1.World.Net.Next o p)).bind λZ=>bif (!Z)then(idx b.2.2.1 b.1).bind λx99=>(b.2.2.1[(toNat b.1)]?).bind λx100=>I ((aC .i64 b.1 1),(b.2.2.1.set (toNat b.1) {j with ak:={j.ak with ai:={j.ak.ai with ae:=(af j.ak.ai.ae)},ah:=(eT1 j.ak.ah)}}),())else I (b.1,b.2.2.1,())else oR (bif eR b.1 ((b.2.2.1.length):Int) (b.2.2.1.length)then bif eR 0 b.1 (List.length (b.2.2.1.take (toNat b.1)++replicate (toNat ((b.2.2.1.length):Int) - toNat b.1) (bA.mk 0 0 0 0 zz8)++b.2.2.1.drop ((toNat b.1)+(toNat ((b.2.2.1.length):Int) - toNat b.1))))then G (((b.2.2.1.take (toNat b.1)++replicate (toNat ((b.2.2.1.length):Int) - toNat b.1) (bA.mk 0 0 0 0 zz8)++b.2.2.1.drop ((toNat b.1)+(toNat ((b.2.2.1.length):Int) - toNat b.1))).take (toNat b.1 - toNat 0)),())else none else none)) (x,(aC .i64 x 1),w,())else none else oR (some ({d.2.1.World with aY:=d.2.2.1,fg:=d.2.2.2.1},0,()))
def iF(b:aI)(a:eF):Y (aI×Int×Unit):=(mL b).bind λr1=>bif (!r1)then some (zz5,13,())else(fL b.aY).bind λc=>(dp b.Net.cO).bind λe=>(bz b.Net.gk).bind λf=>(bz b.Net.gI).bind λg=>(iz b.fg).bind λh=>(oO (decide (a.cQ<1)) (some (decide (8<a.cQ)))).bind λb7=>bif b7 then some (zz5,63,())else(o9 (cq.mk (aI.mk b.Time c b.fP (bI.mk e b.Net.Next f g) h)) {a with ae:=(af a.ae),ak:={a.ak with ai:={a.ak.ai with ae:=(af a.ak.ai.ae)},ah:=(eT1 a.ak.ah)}}).bind λr8=>bif (!r8)then some (zz5,5,())else bif decide (a.cQ=1)then(eG b.fP a.aF).bind λr9=>bif r9 then some (zz5,63,())else(idx c a.aF).bind λx10=>(c[(toNat a.aF)]?).bind λR=>(td (eT3 R) a.bt a.Value b.Time).bind λj=>aX (λ(S:(Z ay)×Unit)=>bif (!decide (j.2.1=0))then some (zz5,j.2.1,())else some ((aI.mk b.Time S.1 b.fP (bI.mk e b.Net.Next f g) h),0,())) λu=>bif decide (j.2.1=0)then(idx c a.aF).bind λx15=>(c[(toNat a.aF)]?).bind λx16=>u ((c.set (toNat a.aF) (eT3 j.1)),())else u (c,())else bif decide (a.cQ=8)then(eG b.fP a.aF).bind λT=>bif T then some (zz5,63,())else(idx c a.aF).bind λx18=>(c[(toNat a.aF)]?).bind λV=>(sF (eT3 V) a.bt a.Value b.Time).bind λk=>aX (λ(W:(Z ay)×Unit)=>bif (!decide (k.2.1=0))then some (zz5,k.2.1,())else some ((aI.mk b.Time W.1 b.fP (bI.mk e b.Net.Next f g) h),0,())) λv=>bif decide (k.2.1=0)then(idx c a.aF).bind λx23=>(c[(toNat a.aF)]?).bind λx24=>v ((c.set (toNat a.aF) (eT3 k.1)),())else v (c,())else bif decide (a.cQ=4)then(eG b.fP a.aF).bind λX=>bif X then some (zz5,63,())else(idx c a.aF).bind λx26=>(c[(toNat a.aF)]?).bind λY=>(u9 (eT3 Y)).bind λZ=>aX (λ(v29:(Z ay)×Unit)=>some ((aI.mk b.Time v29.1 b.fP (bI.mk e b.Net.Next f g) h),0,())) λj30=>(idx c a.aF).bind λx31=>(c[(toNat a.aF)]?).bind λx32=>j30 ((c.set (toNat a.aF) (eT3 Z)),())else bif decide (a.cQ=2)then(oO (decide (a.Count<1)) (some (decide (200<a.Count)))).bind λb33=>bif b33 then some (zz5,63,())else aE (au a) (0,(cq.mk (aI.mk b.Time [] b.fP (bI.mk e b.Net.Next f g) [])),c,h,())else bif decide (a.cQ=3)then(idx c a.aF).bind λx101=>(c[(toNat a.aF)]?).bind λl=>(idx h a.aF).bind λx103=>(h[(toNat a.aF)]?).bind λm=>(fj m {a with ae:=(af a.ae),ak:={a.ak with ai:={a.ak.ai with ae:=(af a.ak.ai.ae)},ah:=(eT1 a.ak.ah)}}).bind λn=>aX (λ(w:Bool×Unit)=>bif w.1 then some (zz5,63,())else aX (λ(x:Bool×Unit)=>bif x.1 then some (zz5,1,())else(aO (!n) (some (decide ((m.length:Int)=4)))).bind λy=>bif y then some (zz5,3,())else(qX (eT3 l) (af a.ae)).bind λd=>bif (!decide (d.2.1=0))then bif (!decide (d.2.1=0))then some (zz5,d.2.1,())else some ((aI.mk b.Time c b.fP (bI.mk e b.Net.Next f g) h),0,())else(idx c a.aF).bind λx112=>(c[(toNat a.aF)]?).bind λx113=>aX (λ(v114:Unit)=>some ((aI.mk b.Time (c.set (toNat a.aF) (eT3 d.1)) b.fP (bI.mk e b.Net.Next f g) h),0,())) λz=>bif (!n)then(bG (af a.ae)).bind λr116=>none else z (())) λo=>(bF (af a.ae)).bind λA=>bif (!decide (A=0))then o (true,())else(qG (af a.ae)).bind λB=>if(c.length:Int)<0 then none else o ((!decide ((iI .i64 B (c.length:Int))=0)),())) λp=>(eG b.fP a.aF).bind λC=>bif C then p (true,())else p (l.lW,())else bif decide (a.cQ=5)then aX (λ(D:Bool×Unit)=>bif D.1 then some (zz5,63,())else none) λi=>(eG b.fP a.aF).bind λE=>bif (!E)then i (true,())else(kp (cq.mk (aI.mk b.Time c b.fP (bI.mk e b.Net.Next f g) h)) a.To).bind λF=>bif (!F)then i (true,())else i ((decide (a.To=a.aF)),())else bif decide (a.cQ=6)then(kW (bI.mk e b.Net.Next f g)).bind λG=>bif (!G)then none else(sK a.gk).bind λH=>bif (!H)then some (zz5,1,())else(dp e).bind λI=>(bz f).bind λr127=>(bz g).bind λJ=>(bz a.gk).bind λK=>some ((aI.mk b.Time c b.fP (bI.mk I b.Net.Next K J) h),0,())else bif decide (a.cQ=7)then(kW (bI.mk e b.Net.Next f g)).bind λL=>bif (!L)then none else(gX a.aF).bind λM=>(oO (!M) ((gX a.To).bind λN=>some (!N))).bind λO=>bif O then some (zz5,5,())else(oO (decide (a.Count<0)) (some (decide (20<a.Count)))).bind λP=>bif P then some (zz5,1,())else(dp e).bind λq=>(bz f).bind λr=>(bz g).bind λs=>aX (λ(Q:bI×Z bA×Unit)=>(idx Q.1.gI (aC .i64 (xr .i64 a.aF 10) a.To)).bind λx140=>none) λt=>bif decide ((s.length:Int)=0)then bif decide ((100:Int)<=100)&&decide ((0:Int)<=100)&&bp 8 (toNat 100)then t ((bI.mk [] b.Net.Next r (replicate (toNat 100) 0)),q,())else none else t ((bI.mk [] b.Net.Next r s),q,())else some ((aI.mk b.Time c b.fP (bI.mk e b.Net.Next f g) h),0,())
noncomputable def zR:KS U prog:=⟨.fn 51 [.ty y20,.aQ 52 [.ref (.ty y23)]] (.many [y20,y0]) λa=>iF a.1 a.2.1.1,Fk (K:=K) za 27 [.cell 4 (some 8),.tmp 5] [xw,pL,tJ,lp,uH,yi,zQ,BV,A6,CB,yz,gS,og,kM,yy,CC,CA,zV,Gl,yA,gg,nU,kj,bM,xu,zW,bZ,o3,yx,tI] [(101,16,(aT prog 16 [] f101),[.cell 2 (some 8)]),(149,16,(aT prog 16 [] f149),[.cell 2 (some 4)]),(52,7,(aT prog 7 [] f52),[.tmp 3]),(53,99,(aT prog 99 [] f53),[.tmp 4]),(103,43,(aT prog 43 [] f103),[.tmp 6]),(104,19,(aT prog 19 [] f104),[.cell 4 (some 6),.tmp 5]),(103,43,(aT prog 43 [] f103),[.tmp 6]),(106,19,(aT prog 19 [] f106),[.cell 4 (some 6),.tmp 5]),(103,43,(aT prog 43 [] f103),[.tmp 6]),(108,6,(aT prog 6 [] f108),[.cell 2 (some 6),.tmp 3]),(77,15,(aT prog 15 [] f77),[.tmp 4]),(73,106,(aT prog 106 [] f73),[.tmp 2]),(136,37,(aT prog 37 [] f136),[.tmp 4,.cell 5 (some 4)]),(149,16,(aT prog 16 [] f149),[.cell 2 (some 4)]),(201,42,(aT prog 42 [] f201),[.tmp 4]),(138,32,(aT prog 32 [] f138),[]),(139,22,(aT prog 22 [] f139),[]),(138,32,(aT prog 32 [] f138),[]),(141,40,(aT prog 40 [] f141),[]),(143,22,(aT prog 22 [] f143),[.tmp 8]),(215,71,(aT prog 71 [] f215),[.tmp 10]),(110,105,(aT prog 105 [] f110),[.tmp 4]),(111,65,(aT prog 65 [] f111),[.tmp 4]),(112,22,(aT prog 22 [] f112),[.cell 4 (some 4),.tmp 5]),(149,16,(aT prog 16 [] f149),[.cell 2 (some 4)]),(113,50,(aT prog 50 [] f113),[.cell 8 (some 4),.tmp 9]),(149,16,(aT prog 16 [] f149),[.cell 2 (some 4)])] ⟨fk f101 [] func101,⟨fk f149 [] func149,⟨fk f52 [] func52,⟨fk f53 [] func53,⟨fk f103 [] func103,⟨fk f104 [] func104,⟨fk f103 [] func103,⟨fk f106 [] func106,⟨fk f103 [] func103,⟨fk f108 [] func108,⟨fk f77 [] func77,⟨fk f73 [] func73,⟨fk f136 [] func136,⟨fk f149 [] func149,⟨fk f201 [] func201,⟨fk f138 [] func138,⟨fk f139 [] func139,⟨fk f138 [] func138,⟨fk f141 [] func141,⟨fk f143 [] func143,⟨fk f215 [] func215,⟨fk f110 [] func110,⟨fk f111 [] func111,⟨fk f112 [] func112,⟨fk f149 [] func149,⟨fk f113 [] func113,⟨fk f149 [] func149,trivial⟩⟩⟩⟩⟩⟩⟩⟩⟩⟩⟩⟩⟩⟩⟩⟩⟩⟩⟩⟩⟩⟩⟩⟩⟩⟩⟩ (fk f51 [] func51)⟩
def kF(c:aI)(a:eF):Y (aI×Int×Unit):=(iF c {a with ae:=(af a.ae),ak:={a.ak with ai:={a.ak.ai with ae:=(af a.ak.ai.ae)},ah:=(eT1 a.ak.ah)}}).bind λb=>some (b.1,b.2.1,())
def IN:=kf func15 [.ty y20,.ty y23] (.many [y20,y0]) (u2 kF) [3] .e [zR]
noncomputable def IH:SA U:=bc (aT prog 15 [] f54) (.r (.r (.l (.r (.l (.ps (.rS 1 0 65 4 y21) (.j ⟨[.val 2 y0,.box 1 1 y12 [(0,3,2)],.bQ 3 2 false 65 4 y21],[0,1]⟩ .e)))))))
noncomputable def Kq:Y bq:=aE (λ(a:Int×bq×Z bW×Unit)=>bif decide (a.1<4)then(zH 4 3).bind λb=>bif bp 64 (a.2.2.1.length+List.length [(bW.mk true (af b))])then some (inl ((aC .i64 a.1 1),zz9,(a.2.2.1++[(bW.mk true (af b))]),()))else none else oR (some (bq.mk a.2.2.1))) (0,zz9,[],())
noncomputable def xW:Y bq:=FM Kq
noncomputable def JC:KS U prog:=⟨.fn 54 [] (.one y12) λa=>xW,Po (NA (K:=K) IH 15 [.cell 0 (some 1)] [Ew] (fk f54 [] func54))⟩
noncomputable def o1(c:Z eF)(a:Int×aI×aI×Unit):Y ((Int×aI×aI×Unit)⊕(aI×Int×Int×Unit)):=bif decide (a.1<(c.length:Int))then(idx c a.1).bind λb=>(kF a.2.2.1 {b with ae:=(af b.ae),ak:={b.ak with ai:={b.ak.ai with ae:=(af b.ak.ai.ae)},ah:=(eT1 b.ak.ah)}}).bind λd=>bif (!decide (d.2.1=0))then oR (some (a.2.2.1,a.1,d.2.1,()))else some (inl ((aC .i64 a.1 1),a.2.1,d.1,()))else oR (some (a.2.2.1,(c.length:Int),0,()))
def ed(c:bq)(d:Int)(b:Z eF):Y (aI×Int×Int×Unit):=(tY c d).bind λa=>bif (!decide (a.2.1=0))then some (zz5,0,a.2.1,())else bif decide (300<(b.length:Int))then some (a.1,0,3,())else aE (o1 b) (0,zz5,a.1,())
def zS:=kf func19 [t12,t0,.ty (Ty.sl (Ty.st .Step))] (.many [y20,y0,y0]) (u3 ed) [] (p_ 6 23 (.j ⟨[.val 33 y0,.box 1 1 y20 [],.box 10 1 y20 []],[2,6,9,31,32]⟩ .e)) [Hs,IN]
def dx(d:aI):Y (Z fW):=(mL d).bind λg=>bif (!g)then some []else aE (λ(a:Int×Z fW×Unit)=>bif decide (a.1<(d.aY.length:Int))then(idx d.aY a.1).bind λe=>aE (λ(b:Int×Z fW×Unit)=>bif decide (b.1<(e.b0.length:Int))then aX (λ(h:(Z fW)×Unit)=>some (inl ((aC .i64 b.1 1),h.1,()))) λf=>(idx e.b0 b.1).bind λc=>(aO c.FC ((eG d.fP a.1).bind λi=>some (!i))).bind λj=>bif j then bif bp 32 (b.2.1.length+List.length [(fW.mk a.1 c.aa.bt c.Value)])then f ((b.2.1++[(fW.mk a.1 c.aa.bt c.Value)]),())else none else f (b.2.1,())else oR (some (inl ((aC .i64 a.1 1),b.2.1,())))) (0,a.2.1,())else oR (some a.2.1)) (0,[],())
def sW:=kf func20 [.ty y20] (.one (Ty.sl (Ty.st .Outcome))) (u1 dx) [] (p_ 6 23 (.ps (.own 3 73 3 y29) (.j ⟨[.val 14 y0,.own 3 10 2 false 73 3 y29],[1,12,13]⟩ (p_ 8 102 (.j ⟨[.val 22 y0,.own 3 10 3 false 73 3 y29],[1,4,12,13,14,20,21]⟩ (p_ 3 6 (.j ⟨[.own 3 10 4 false 73 3 y29],[1,4,12,13,14,20,21,22]⟩ .e))))))) [xw,zQ]
noncomputable def IG:SA U:=bc (aT prog 58 [23] f16) (.r (.r (.b (.r (.l (.ps (.own 1 57 34 y23) (.j ⟨[.val 2 y0,.own 1 3 2 false 57 34 y23],[]⟩ .e)))) (.r (.r (.r (.l (.r (.l (.j ⟨[.val 48 y0],[46,47]⟩ .e))))))))))
noncomputable def Di:Y Bool:=aE (λ(a:Int×Z eF×Unit)=>bif decide (a.1<4)then bif bp 448 (a.2.1.length+List.length [(eF.mk 8 a.1 0 1 0 (ByteArray.mk #[97]) zz0 zz8 [])])then some (inl ((aC .i64 a.1 1),(a.2.1++[(eF.mk 8 a.1 0 1 0 (ByteArray.mk #[97]) zz0 zz8 [])]),()))else none else oR ((xW).bind λf=>bif bp 448 (a.2.1.length+List.length [zz12])then(ed f 0 (a.2.1++[zz12])).bind λb=>(dx b.1).bind λd=>(oO (!decide (b.2.1=5)) (some (!decide (b.2.2.1=0)))).bind λg=>(oO g (some (!decide ((d.length:Int)=4)))).bind λh=>(oO h (some (!decide (b.1.Time=12)))).bind λi=>bif i then some false else aE (λ(c:Int×Unit)=>bif decide (c.1<(d.length:Int))then(idx d c.1).bind λe=>bif (xor true (decide (e.aF=c.1)&&(decide (e.bt=1)&&(decide (e.Value=(ByteArray.mk #[97]))&&true))))then oR (some false)else some (inl ((aC .i64 c.1 1),()))else oR (some true)) (0,())else none)) (0,[],())
noncomputable def oI:Y Bool:=FM Di
noncomputable def JB:KS U prog:=⟨.fn 16 [] q1 λa=>oI,Po (NA (K:=K) IG 58 [.tmp 0] [JC,zS,sW] (fk f16 [23] func16))⟩
def mg(j:Z Int):Y Bool:=(wR j).bind λk=>(mO k 1 4).bind λc=>aE (λ(d:Int×bq×Z bW×Unit)=>bif decide (d.1<c.1)then(zH c.1 (aC .i64 (Xc .i64 c.1 2) 1)).bind λh=>bif bp 64 (d.2.2.1.length+List.length [(bW.mk true (af h))])then some (inl ((aC .i64 d.1 1),zz9,(d.2.2.1++[(bW.mk true (af h))]),()))else none else oR ((mN c.2).bind λe=>aE (λ(a:Int×Z eF×Unit)=>bif decide (a.1<c.1)then bif bp 448 (a.2.1.length+List.length [(eF.mk 8 a.1 0 1 0 e.1 zz0 zz8 [])])then some (inl ((aC .i64 a.1 1),(a.2.1++[(eF.mk 8 a.1 0 1 0 e.1 zz0 zz8 [])]),()))else none else oR (bif bp 448 (a.2.1.length+List.length [zz12])then(ed (bq.mk d.2.2.1) 0 (a.2.1++[zz12])).bind λi=>(dx i.1).bind λf=>(oO (!decide (i.2.2.1=0)) (some (!decide ((f.length:Int)=c.1)))).bind λl=>bif l then some false else aE (λ(b:Int×Unit)=>bif decide (b.1<(f.length:Int))then(idx f b.1).bind λg=>bif (!decide (g.Value=e.1))then oR (some false)else some (inl ((aC .i64 b.1 1),()))else oR ((oI).bind some)) (0,())else none)) (0,[],()))) (0,zz9,[],())
def Ab:=kf func4 [t11] q1 (u1 mg) [54] (p_ 4 15 (.b (p_ 2 1 (.ps (.rS 5 0 65 4 y21) (.j ⟨[.val 6 y0,.box 7 1 y12 [(0,9,2)],.bQ 9 2 false 65 4 y21],[3,4,5]⟩ .e))) (p_ 2 3 (.b (p_ 2 1 (.ps (.own 7 57 34 y23) (.j ⟨[.val 9 y0,.own 7 18 2 false 57 34 y23],[4,5,8]⟩ .e))) (.b (.ps (.tP 5 0) .e) (p_ 5 11 (.j ⟨[.val 71 y0],[8,69,70]⟩ .e))))))) [Mr,E2,Ew,E0,zS,sW,JB]
end
end Go.Proofs.YtppbofaglpdghaaGreat
end
noncomputable section
end
noncomputable section
namespace Go.TQ
@[simp] def Ri {a ρ:Type} (j:a->Y ρ) (f:(a->Y ρ)->Y ρ):aX j f=f j:=rfl
@[simp] def OY {α:Type} (b:Bool) (x y:α):(bif b then some x else some y)=some (bif b then x else y):=by cases b<;>rfl
@[simp] def Xn {α:Type} (b:Bool) (x:α):(bif b then x else x)=x:=by cases b<;>rfl
def RQ{α:Type}(p:Prop)[Decidable p](x y:α):(bif decide p then x else y)=if p then x else y:=by by_cases h:p<;>simp[h]
def OI{α:Type}(p:Prop)[Decidable p](x y:α):(if p then some x else some y)=some (if p then x else y):=by split<;>rfl
@[simp] def Xp {α:Type} (b:Bool) (x y:α):(bif !b then x else y)=bif b then y else x:=by cases b<;>rfl
@[simp] def NC (a b:Int) (s t:C):ox false a b s t=(decide (a=b)&&decide (s=t)):=by simp[ox]
@[simp] def Xh (a b:Int) (s t:C):ox true a b s t= !(decide (a=b)&&decide (s=t)):=by simp[ox]
def Yd{α:Type}(o:Y α)(p:α->Prop):Prop:=∃x,o=some x/\p x
def Yd.bind{α β:Type}{o:Y α}{p:α->Prop}{f:α->Y β}{q:β->Prop}(h:Yd o p)(k:∀x,p x->Yd (f x) q):Yd (o.bind f) q:=by obtain⟨x,rfl,a⟩:=h;exact k x a
theorem Yd.some{α:Type}{x:α}{p:α->Prop}(h:p x):Yd (Option.some x) p:=⟨x,rfl,h⟩
def Yd.of_eq{α:Type}{o:Y α}{x:α}{p:α->Prop}(h:o=Option.some x)(hp:p x):Yd o p:=⟨x,h,hp⟩
def Yd.cond{α:Type}{b:Bool}{x y:Y α}{p:α->Prop}(d:b=true->Yd x p)(a:b=false->Yd y p):Yd (bif b then x else y) p:=by
 cases b
 .exact a rfl
 .exact d rfl
def Yd.map{α β:Type}{o:Y α}{f:α->β}{p:β->Prop}(h:Yd o λx=>p (f x)):Yd (o.map f) p:=by obtain⟨x,rfl,a⟩:=h;exact⟨f x,rfl,a⟩
def Yd.eq_true{o:Y Bool}(h:Yd o (·=true)):o=Option.some true:=by obtain⟨x,h1,rfl⟩:=h;exact h1
def wrap64{n:Int}(b: -9223372036854775808<=n)(a:n<=9223372036854775807):IntKind.i64.wrap n=n:=i64_in b a
theorem Bv{a b:Int}(j: -9223372036854775808<=a+b)(d:a+b<=9223372036854775807):aC .i64 a b=a+b:=wrap64 j d
def Pl{a b:Int}(j: -9223372036854775808<=a - b)(d:a - b<=9223372036854775807):iH .i64 a b=a - b:=wrap64 j d
def Rn{α:Type}(l:Z α)(i:Nat):idx l (i:Int)=l[i]?:=by simp[idx]
theorem JK{α:Type}(l:Z α){n:Int}(h:0<=n):idx l n=l[n.toNat]?:=by simp[idx,h]
@[simp] def Tq (n:Nat) (h:n<256):bB .i64 (n:Int)=n:=wrap64 O O
@[simp] def Ur {a n:Nat} (h:n*a<=140737488355328/\n<=1000000):bp a n=true:=by simp only[bp,Qa,QB];exact⟨h.1,QS h.2 (by simp[maxLen])⟩
def Yd.inr{a ρ:Type}{o:Y ρ}{p:a⊕ρ->Prop}(h:Yd o λr=>p (.inr r)):Yd (Option.map inr o) p:=h.map
def Bj{α b ρ:Type}(g:α->b->Y (b⊕ρ))(a:b->Y ρ):Z α->b->Y ρ
 |[],s=>a s
 |x::l,s=>match g x s with
  |none=>none
  |some (.inr r)=>some r
  |some (.inl s')=>Bj g a l s'
def Mo{α b j ρ:Type}(l:Z α)(mk:Int->b->j){step:j->Y (j⊕ρ)}(g:α->b->Y (b⊕ρ))(a:b->Y ρ)
  (o:∀(i:Nat) (x:α) (s:b),i<l.length->l[i]?=some x->step (mk i s)=match g x s with|none=>none|some (.inr r)=>some (.inr r)|some (.inl s')=>some (.inl (mk (i+1:Nat) s')))
  (n:∀s,step (mk l.length s)=(a s).map inr) (s:b):aE step (mk 0 s)=Bj g a l s:=by
 suffices h:∀(k:Nat) (i:Nat) (s:b),i+k=l.length->aE step (mk i s)=Bj g a (l.drop i) s by have:=h l.length 0 s O;simpa using this
 intro k
 induction k with
 |zero=>intro i s hi;obtain rfl:i=l.length:=O;rw[List.drop_length,Bj,AW,n];cases a s<;>rfl
 |succ k m=>
  intro i s hi;have d:i<l.length:=O;rw[qbh d,Bj,AW,o i l[i] s d (Qv d)]
  cases p:g l[i] s with
  |none=>rfl
  |some y=>
   cases y with
   |inr r=>rfl
   |inl s'=>exact m (i+1) s' O
def KF{α b d ρ:Type}(l:Z α)(o:l.length<=9223372036854775807)(mk:Int->b->d){step:d->Y (d⊕ρ)}(g:α->b->Y (b⊕ρ))(a:b->Y ρ)
  (n:∀(i:Nat) (x:α) (s:b),decide ((i:Int)<(l.length:Int))=true->idx l (i:Int)=some x->aC .i64 (i:Int) 1=((i+1:Nat):Int)->step (mk i s)=match g x s with|none=>none|some (.inr r)=>some (.inr r)|some (.inl s')=>some (.inl (mk (i+1:Nat) s')))
  (m:∀s,decide ((l.length:Int)<(l.length:Int))=false->step (mk l.length s)=(a s).map inr) (s:b):aE step (mk 0 s)=Bj g a l s:=
 Mo l mk g a (λi x s hi j=>n i x s (qah (qbx.2 hi)) (by rw[Rn];exact j) (Bv O O)) (λs=>m s (qai (Int.lt_irrefl _))) s
end Go.TQ
namespace Go.Proofs.YtppbofaglpdghaaGreat
open Go.TQ
section
def UN:C:=⟨#[]⟩
def Dl(b:aj):Bool:=decide (b.al=0)&&decide (b.Value=UN)
def Mp(a b:C):Bool:=if a.size=b.size then mz a b else decide (a.size<b.size)
def Ge(a b:aj):Bool:=if a.al=b.al then Mp a.Value b.Value else decide (a.al<b.al)
def Ka(a b:aj):Bool:=decide (a.Value=b.Value)
def GN(p b:aj):Bool:= !Dl p&&Ka p b&&decide (b.al<=p.al)
def Ig(p q b:aj):Bool:=GN p b||GN q b||(!Dl q&&Ge b q)
def NN(p b:aj):Bool:= !Dl p&& !Ka p b&&Ge b p
def FE(b:aj):Bool:=(decide (1<=b.al)&&decide (b.al<=1000)||decide (b.al=1000000))&&decide (1<=b.Value.size)&&decide (b.Value.size<=200)
@[simp] def NU (b:aj):aU b=some (Dl b):=by unfold aU Dl;rw[NC];rfl
@[simp] def Ku (a b:aj):bu a b=some (Ka a b):=rfl
@[simp] def NQ (b:aj):eO b=some (FE b):=by
 have d:decide ((1:Int)<=(b.Value.size:Nat))=decide (1<=b.Value.size):=by rw[decide_eq_decide];omega
 have a:decide (((b.Value.size:Nat):Int)<=200)=decide (b.Value.size<=200):=by rw[decide_eq_decide];omega
 simp only[eO,FE,d,a,OY,QK,Bool.cond_false_right,Bool.cond_true_left,oO,aO]
@[simp] def MX (a b:aj):fY a b=some (GN a b):=by simp[fY,GN]
def zG(a b:Int):Int:=if a<b then -1 else if b<a then 1 else 0
def Kd(a b:C):Int:=if mz a b then -1 else if mz a b||decide (a=b)then 0 else 1
def Py:Z Int->Int
 |[]=>0
 |x::l=>if x=0 then Py l else x
@[simp] def MT (a b:Int):bX a b=some (zG a b):=by simp[bX,nS,zG,RQ,OI]
@[simp] def Kt (a b:C):gH a b=some (Kd a b):=by simp only[gH,kZ,Kd];cases h1:mz a b<;>by_cases d:a=b<;>simp[d]
def Ha(l:Z Int)(m:l.length<=1000000):gG l=some (Py l):=by
 unfold gG;rw[KF l O (λi (_:Unit)=>(i,())) (λx _=>some (if x=0 then .inl ()else .inr x)) (λ_=>some 0) (λi x s a d j=> ?_) (λs a=> ?_) ()]
 .induction l with
  |nil=>rfl
  |cons x l b=>grind [Bj,Py]
 .grind
 .simp only[a,QO]
@[simp] def Pe (a b:Int):gG [a,b]=some (if a=0 then b else a):=by
 rw[Ha _ t_];simp only[Py]
 by_cases h:a=0<;>by_cases d:b=0<;>simp[h,d]
def Kc(a b:C):Int:=if zG a.size b.size=0 then Kd a b else zG a.size b.size
def MG(a b:aj):Int:=if zG a.al b.al=0 then Kc a.Value b.Value else zG a.al b.al
@[simp] def IQ (a b:C):ew a b=some (Kc a b):=by simp[ew,Kc]
@[simp] def MU (a b:aj):iX a b=some (MG a b):=by simp[iX,MG]
theorem IA(a b:Int):zG a b=0↔a=b:=by unfold zG;split<;>(try split)<;>omega
theorem Ke(a b:Int):zG a b<0↔a<b:=by unfold zG;split<;>(try split)<;>omega
theorem OU(a b:C):Kd a b<0↔mz a b=true:=by grind [Kd]
theorem OT(a b:C):decide (Kc a b<0)=Mp a b:=by grind [Kc,Mp,IA,OU,Ke]
def OV(a b:aj):decide (MG a b<0)=Ge a b:=by grind [MG,Ge,IA,OT,Ke]
@[simp] def NV (a b:aj):cP a b=some (Ge a b):=by simp[cP,OV]
@[simp] def Lr (p q b:aj):eu p q b=some (Ig p q b):=by simp[eu,Ig]
@[simp] def MY (p b:aj):dw p b=some (NN p b):=by simp[dw,NN]
def finite(b:aj):Bool:=FE b&&decide (b.al<=1000)
@[simp] def Lq (b:aj):ix b=some (finite b):=by simp[ix,finite]
@[simp] def Ks (b:aj):gF b=some (Dl b||FE b):=by simp[gF]
@[simp] def NS (e:ao) (n:Int):jz e n=some ⟨n,e.aG.Value⟩:=rfl
end
section
structure G9 (s:jH):Prop where
 len:s.L.length<=800
 lo:0<=s.At
 hi:s.At<=800
def Um(l:Z Int):Yd (wR l) λs=>G9 s:=by
 have h:rY (l.length:Int) 800=((min l.length 800:Nat):Int):=by unfold rY;split<;>omega
 have a:eR 0 ((min l.length 800:Nat):Int) l.length=true:=by grind [eR]
 unfold wR;rw[h,a];refine Yd.some ⟨?_,t_,t_⟩
 grind
def P7(x n:Int)(a:1<=n): -n<x.tmod n/\x.tmod n<n:=by
 have d:=Int.emod_nonneg x (show n≠0 by omega)
 have b:=Int.emod_lt_of_pos x (show 0<n by omega)
 rw[Int.tmod_eq_emod];split
 .omega
 .rw[Int.natAbs_of_nonneg O];omega
def Un{s:jH}(h:G9 s){n:Int}(w:n<=1000000000):Yd (oB s n) λp=>G9 p.2/\0<=p.1/\(1<=n->p.1<n)/\(n<1->p.1=0):=by
 unfold oB;simp only[Ri];refine Yd.cond (λj=> ?_) (λj=> ?_)
 .grind [Yd.some]
 .simp only[qaG,Int.not_le]at j;refine Yd.cond (λd=> ?_) (λd=> ?_)
  .grind [Yd.some]
  .simp only[qaG,Int.not_lt]at d;obtain⟨l,b,m⟩:=h;have v:aC .i64 s.At 1=s.At+1:=Bv O O;have u:iH .i64 (s.At+1) 1=s.At:=by rw[Pl O O];omega
   rw[v,u];have a:s.At.toNat<s.L.length:=O;rw[JK _ b,Qv a,QK,Qf O,Qf O];have o:=P7 s.L[s.At.toNat] n d;have t:LD .i64 s.L[s.At.toNat] n=s.L[s.At.toNat].tmod n:=rfl;rw[t];generalize s.L[s.At.toNat].tmod n=y at o;have r:aC .i64 y n=y+n:=Bv O O;rw[r];have q:LD .i64 (y+n) n=(y+n) % n:=Int.tmod_eq_emod_of_nonneg O;rw[q];exact Yd.some ⟨⟨l,o_,o_⟩,Int.emod_nonneg _ O,λ_=>Int.emod_lt_of_pos _ O,λ_=>O⟩
def O9{s:jH}(h:G9 s){a b:Int}(t:0<=a)(r:a<=b+1)(q:b<=1000000):Yd (mO s a b) λp=>G9 p.2/\a<=p.1/\(a<=b->p.1<=b)/\(b<a->p.1=a):=by
 unfold mO;have j:iH .i64 b a=b - a:=Pl O O;have d:aC .i64 (b - a) 1=b - a+1:=Bv O O;rw[j,d];refine(Un h O).bind λp ⟨o,n,m,l⟩=> ?_
 grind [aC,Bv,Yd.some]
def R4{s:jH}(h:G9 s){l:Z C}(m:1<=l.length)(j:l.length<=1000):Yd (nK s l) λp=>G9 p.2/\p.1∈l:=by
 unfold nK;refine(Un h O).bind λp ⟨d,b,a,_⟩=> ?_
 grind [JK,Yd.some]
def Ud(v:C):Prop:=v∈[(ByteArray.mk #[97]),(ByteArray.mk #[98]),(ByteArray.mk #[99]),(ByteArray.mk #[97,97])]
def Bw{s:jH}(h:G9 s):Yd (mN s) λp=>G9 p.2/\Ud p.1:=by unfold mN;exact(R4 h t_ t_).bind λp hp=>Yd.some hp
end
section
def aq:C:=bE
def G1:ar:=⟨0,[],[]⟩
def fV:ar:=⟨1,[0],[]⟩
def bg:ar:=⟨2,[0,1],[]⟩
def aS:ar:=⟨2,[0,1,2],[]⟩
def aB:ar:=⟨3,[0,1,2,3],[]⟩
def Wd(k n s c:Int)(v:C):eF:=⟨k,n,0,s,c,v,G1,⟨0,0,⟨0,0,G1,[],[]⟩,⟨0,0,0,G1,0,⟨0,aq⟩,⟨0,aq⟩,⟨0,aq⟩,0,0⟩⟩,[]⟩
def dt:eF:=Wd 2 0 0 12 aq
def IF(T:ar)(n:Nat):bq:=⟨replicate n ⟨true,T⟩⟩
def BJ(v:C):Nat->Z eF
 |0=>[]
 |n+1=>BJ v n++[Wd 8 n 1 0 v]
def bH(i:Int)(w:aI):Int×cq×(Z ay)×(Z (Z ar))×Unit:=(i,⟨{w with aY:=[],fg:=[]}⟩,w.aY,w.fg,())
def dz(v:C):Prop:=v=⟨#[97]⟩\/v=⟨#[98]⟩\/v=⟨#[99]⟩\/v=⟨#[97,97]⟩
def bb{a ρ:Type}{step:a->Y (a⊕ρ)}{s s':a}(h:step s=some (.inl s')):aE step s=aE step s':=by rw[AW,h]
def qS{a ρ:Type}{step:a->Y (a⊕ρ)}{s:a}{r:ρ}(h:step s=some (.inr r)):aE step s=some r:=by rw[AW,h]
def q0(v:C):aD:=⟨0,1,1,1,fV,v,[v],[v],[v],[]⟩
def q1(v:C):aW:=⟨0,1,1,fV,3,⟨1,v⟩,⟨0,aq⟩,⟨0,aq⟩,⟨0,aq⟩,1,1,v,[]⟩
def q2(v:C):aD:=⟨0,1,1,1,bg,v,[v],[],[],[]⟩
def q3(v:C):aW:=⟨0,1,1,bg,1,⟨1,v⟩,⟨0,aq⟩,⟨0,aq⟩,⟨0,aq⟩,0,0,v,[]⟩
def q4(v:C):aD:=⟨1,1,1,1,bg,v,[],[],[],[]⟩
def q5(v:C):aW:=⟨1,1,1,bg,1,⟨1,v⟩,⟨0,aq⟩,⟨0,aq⟩,⟨0,aq⟩,0,0,v,[]⟩
def q6(v:C):aA:=⟨0,1,bg,[v],[]⟩
def q7:ao:=⟨0,0,0,G1,0,⟨0,aq⟩,⟨0,aq⟩,⟨0,aq⟩,0,0⟩
def q8(v:C):aN:=⟨1,1,(q6 v),q7⟩
def q9:aA:=⟨0,0,G1,[],[]⟩
def V7(v:C):ao:=⟨0,1,1,bg,1,⟨1,v⟩,⟨0,aq⟩,⟨0,aq⟩,0,0⟩
def V6:aA:=⟨1,1,bg,[],[]⟩
def V5(v:C):ao:=⟨1,1,1,bg,1,⟨1,v⟩,⟨0,aq⟩,⟨0,aq⟩,0,0⟩
def V4(v:C):aD:=⟨1,1,2,2,bg,v,[v],[v],[],[(q6 v)]⟩
def V3(v:C):ao:=⟨0,1,2,bg,1,⟨1,v⟩,⟨1,v⟩,⟨0,aq⟩,0,0⟩
def V2(v:C):aA:=⟨1,2,bg,[v],[v]⟩
def SL(v:C):aN:=⟨1,1,(V2 v),q7⟩
def V1(v:C):ao:=⟨1,1,2,bg,1,⟨1,v⟩,⟨1,v⟩,⟨0,aq⟩,0,0⟩
def Es(v:C):aD:=⟨0,1,2,2,bg,v,[v],[v],[v],[(V2 v)]⟩
def V0(v:C):aA:=⟨0,2,bg,[v],[v]⟩
def VZ(v:C):aN:=⟨1,1,(V0 v),q7⟩
def VY(v:C):ao:=⟨0,1,3,bg,1,⟨1,v⟩,⟨1,v⟩,⟨0,aq⟩,1,1⟩
def VX(v:C):ao:=⟨1,1,3,bg,1,⟨1,v⟩,⟨1,v⟩,⟨0,aq⟩,1,1⟩
def FW(v:C):aD:=⟨1,1,2,2,bg,v,[v],[v],[v],[(V0 v)]⟩
def VW(v:C):ao:=⟨0,1,5,bg,2,⟨2,v⟩,⟨1,v⟩,⟨0,aq⟩,1,1⟩
def VV(v:C):ao:=⟨1,1,5,bg,2,⟨2,v⟩,⟨1,v⟩,⟨0,aq⟩,1,1⟩
def Ia(v:C):ao:=⟨0,1,6,bg,3,⟨1,v⟩,⟨0,aq⟩,⟨0,aq⟩,1,1⟩
def H9(v:C):aN:=⟨2,1,q9,(Ia v)⟩
def H8(v:C):ao:=⟨1,1,6,bg,3,⟨1,v⟩,⟨0,aq⟩,⟨0,aq⟩,1,1⟩
def H7(v:C):aN:=⟨2,1,q9,(H8 v)⟩
def VU(v:C):aD:=⟨0,1,1,1,aS,v,[v],[],[],[]⟩
def VT(v:C):aW:=⟨0,1,1,aS,1,⟨1,v⟩,⟨0,aq⟩,⟨0,aq⟩,⟨0,aq⟩,0,0,v,[]⟩
def VR(v:C):aD:=⟨1,1,1,1,aS,v,[],[],[],[]⟩
def VQ(v:C):aW:=⟨1,1,1,aS,1,⟨1,v⟩,⟨0,aq⟩,⟨0,aq⟩,⟨0,aq⟩,0,0,v,[]⟩
def VP(v:C):aD:=⟨2,1,1,1,aS,v,[v],[],[],[]⟩
def VO(v:C):aW:=⟨2,1,1,aS,1,⟨1,v⟩,⟨0,aq⟩,⟨0,aq⟩,⟨0,aq⟩,0,0,v,[]⟩
def SK(v:C):aA:=⟨0,1,aS,[v],[]⟩
def K1:ao:=⟨0,0,0,G1,0,⟨0,aq⟩,⟨0,aq⟩,⟨0,aq⟩,0,0⟩
def VN(v:C):aN:=⟨1,1,(SK v),K1⟩
def xj:aA:=⟨0,0,G1,[],[]⟩
def SJ(v:C):ao:=⟨0,1,1,aS,1,⟨1,v⟩,⟨0,aq⟩,⟨0,aq⟩,0,0⟩
def VM(v:C):aN:=⟨2,1,xj,(SJ v)⟩
def SI:aA:=⟨1,1,aS,[],[]⟩
def VL:aN:=⟨1,1,SI,K1⟩
def SH(v:C):ao:=⟨1,1,1,aS,1,⟨1,v⟩,⟨0,aq⟩,⟨0,aq⟩,0,0⟩
def VK(v:C):aN:=⟨2,1,xj,(SH v)⟩
def SF(v:C):aA:=⟨2,1,aS,[v],[]⟩
def VJ(v:C):aN:=⟨1,1,(SF v),K1⟩
def SE(v:C):ao:=⟨2,1,1,aS,1,⟨1,v⟩,⟨0,aq⟩,⟨0,aq⟩,0,0⟩
def VI(v:C):aN:=⟨2,1,xj,(SE v)⟩
def SD(v:C):aA:=⟨0,2,aS,[v],[v]⟩
def K0(v:C):aN:=⟨1,1,(SD v),K1⟩
def Sz(v:C):ao:=⟨0,1,2,aS,1,⟨1,v⟩,⟨1,v⟩,⟨0,aq⟩,0,0⟩
def VH(v:C):aN:=⟨2,1,xj,(Sz v)⟩
def Sy(v:C):aA:=⟨1,2,aS,[v],[v]⟩
def KZ(v:C):aN:=⟨1,1,(Sy v),K1⟩
def Sx(v:C):ao:=⟨1,1,2,aS,1,⟨1,v⟩,⟨1,v⟩,⟨0,aq⟩,0,0⟩
def VG(v:C):aN:=⟨2,1,xj,(Sx v)⟩
def Sw(v:C):aA:=⟨2,2,aS,[v],[v]⟩
def KY(v:C):aN:=⟨1,1,(Sw v),K1⟩
def Sv(v:C):ao:=⟨2,1,2,aS,1,⟨1,v⟩,⟨1,v⟩,⟨0,aq⟩,0,0⟩
def VF(v:C):aN:=⟨2,1,xj,(Sv v)⟩
def Er(v:C):aD:=⟨0,1,2,2,aS,v,[v],[v],[v],[(Sy v),(Sw v)]⟩
def Ep(v:C):aD:=⟨1,1,2,2,aS,v,[v],[v],[v],[(SD v),(Sw v)]⟩
def Eo(v:C):aD:=⟨2,1,2,2,aS,v,[v],[v],[v],[(SD v),(Sy v)]⟩
def Su(v:C):ao:=⟨0,1,3,aS,1,⟨1,v⟩,⟨1,v⟩,⟨0,aq⟩,1,1⟩
def VE(v:C):aN:=⟨2,1,xj,(Su v)⟩
def Ss(v:C):ao:=⟨1,1,3,aS,1,⟨1,v⟩,⟨1,v⟩,⟨0,aq⟩,1,1⟩
def VD(v:C):aN:=⟨2,1,xj,(Ss v)⟩
def Sr(v:C):ao:=⟨2,1,3,aS,1,⟨1,v⟩,⟨1,v⟩,⟨0,aq⟩,1,1⟩
def VC(v:C):aN:=⟨2,1,xj,(Sr v)⟩
def Sq(v:C):ao:=⟨0,1,5,aS,2,⟨2,v⟩,⟨1,v⟩,⟨0,aq⟩,1,1⟩
def VB(v:C):aN:=⟨2,1,xj,(Sq v)⟩
def Sp(v:C):ao:=⟨1,1,5,aS,2,⟨2,v⟩,⟨1,v⟩,⟨0,aq⟩,1,1⟩
def VA(v:C):aN:=⟨2,1,xj,(Sp v)⟩
def Sn(v:C):ao:=⟨2,1,5,aS,2,⟨2,v⟩,⟨1,v⟩,⟨0,aq⟩,1,1⟩
def Vz(v:C):aN:=⟨2,1,xj,(Sn v)⟩
def xi(v:C):ao:=⟨0,1,6,aS,3,⟨1,v⟩,⟨0,aq⟩,⟨0,aq⟩,1,1⟩
def vA(v:C):aN:=⟨2,1,xj,(xi v)⟩
def xh(v:C):ao:=⟨1,1,6,aS,3,⟨1,v⟩,⟨0,aq⟩,⟨0,aq⟩,1,1⟩
def vz(v:C):aN:=⟨2,1,xj,(xh v)⟩
def xg(v:C):ao:=⟨2,1,6,aS,3,⟨1,v⟩,⟨0,aq⟩,⟨0,aq⟩,1,1⟩
def vy(v:C):aN:=⟨2,1,xj,(xg v)⟩
def Vy(v:C):aD:=⟨0,1,1,1,aB,v,[],[],[],[]⟩
def Vx(v:C):aW:=⟨0,1,1,aB,1,⟨1,v⟩,⟨0,aq⟩,⟨0,aq⟩,⟨0,aq⟩,0,0,v,[]⟩
def Vw(v:C):aD:=⟨1,1,1,1,aB,v,[],[],[],[]⟩
def Vv(v:C):aW:=⟨1,1,1,aB,1,⟨1,v⟩,⟨0,aq⟩,⟨0,aq⟩,⟨0,aq⟩,0,0,v,[]⟩
def Vu(v:C):aD:=⟨2,1,1,1,aB,v,[],[],[],[]⟩
def Vt(v:C):aW:=⟨2,1,1,aB,1,⟨1,v⟩,⟨0,aq⟩,⟨0,aq⟩,⟨0,aq⟩,0,0,v,[]⟩
def Vs(v:C):aD:=⟨3,1,1,1,aB,v,[v],[],[],[]⟩
def Vr(v:C):aW:=⟨3,1,1,aB,1,⟨1,v⟩,⟨0,aq⟩,⟨0,aq⟩,⟨0,aq⟩,0,0,v,[]⟩
def Pw:aA:=⟨0,1,aB,[],[]⟩
def Cl:ao:=⟨0,0,0,G1,0,⟨0,aq⟩,⟨0,aq⟩,⟨0,aq⟩,0,0⟩
def Sm:aN:=⟨1,1,Pw,Cl⟩
def qQ:aA:=⟨0,0,G1,[],[]⟩
def Pv(v:C):ao:=⟨0,1,1,aB,1,⟨1,v⟩,⟨0,aq⟩,⟨0,aq⟩,0,0⟩
def Sl(v:C):aN:=⟨2,1,qQ,(Pv v)⟩
def Pu:aA:=⟨1,1,aB,[],[]⟩
def Sk:aN:=⟨1,1,Pu,Cl⟩
def Pt(v:C):ao:=⟨1,1,1,aB,1,⟨1,v⟩,⟨0,aq⟩,⟨0,aq⟩,0,0⟩
def Ou(v:C):aN:=⟨2,1,qQ,(Pt v)⟩
def Md:aA:=⟨2,1,aB,[],[]⟩
def Ot:aN:=⟨1,1,Md,Cl⟩
def Mb(v:C):ao:=⟨2,1,1,aB,1,⟨1,v⟩,⟨0,aq⟩,⟨0,aq⟩,0,0⟩
def Oq(v:C):aN:=⟨2,1,qQ,(Mb v)⟩
def EO(v:C):aA:=⟨3,1,aB,[v],[]⟩
def Hl(v:C):aN:=⟨1,1,(EO v),Cl⟩
def Ma(v:C):ao:=⟨3,1,1,aB,1,⟨1,v⟩,⟨0,aq⟩,⟨0,aq⟩,0,0⟩
def Oo(v:C):aN:=⟨2,1,qQ,(Ma v)⟩
def L9(v:C):aA:=⟨0,2,aB,[v],[]⟩
def On(v:C):aN:=⟨1,1,(L9 v),Cl⟩
def L8(v:C):ao:=⟨0,1,2,aB,1,⟨1,v⟩,⟨1,v⟩,⟨0,aq⟩,0,0⟩
def Om(v:C):aN:=⟨2,1,qQ,(L8 v)⟩
def L6(v:C):aA:=⟨1,2,aB,[v],[]⟩
def Ol(v:C):aN:=⟨1,1,(L6 v),Cl⟩
def LZ(v:C):ao:=⟨1,1,2,aB,1,⟨1,v⟩,⟨1,v⟩,⟨0,aq⟩,0,0⟩
def Oj(v:C):aN:=⟨2,1,qQ,(LZ v)⟩
def LY(v:C):aA:=⟨2,2,aB,[v],[]⟩
def Oi(v:C):aN:=⟨1,1,(LY v),Cl⟩
def LX(v:C):ao:=⟨2,1,2,aB,1,⟨1,v⟩,⟨1,v⟩,⟨0,aq⟩,0,0⟩
def Oh(v:C):aN:=⟨2,1,qQ,(LX v)⟩
def LW(v:C):ao:=⟨3,1,2,aB,1,⟨1,v⟩,⟨1,v⟩,⟨0,aq⟩,0,0⟩
def Og(v:C):aN:=⟨2,1,qQ,(LW v)⟩
def LV(v:C):aA:=⟨0,3,aB,[v],[v]⟩
def Hk(v:C):aN:=⟨1,1,(LV v),Cl⟩
def LU(v:C):ao:=⟨0,1,3,aB,1,⟨1,v⟩,⟨1,v⟩,⟨0,aq⟩,1,1⟩
def Of(v:C):aN:=⟨2,1,qQ,(LU v)⟩
def LS(v:C):aA:=⟨1,3,aB,[v],[v]⟩
def Hj(v:C):aN:=⟨1,1,(LS v),Cl⟩
def LR(v:C):ao:=⟨1,1,3,aB,1,⟨1,v⟩,⟨1,v⟩,⟨0,aq⟩,1,1⟩
def Oe(v:C):aN:=⟨2,1,qQ,(LR v)⟩
def LQ(v:C):aA:=⟨2,3,aB,[v],[v]⟩
def Hi(v:C):aN:=⟨1,1,(LQ v),Cl⟩
def LP(v:C):ao:=⟨2,1,3,aB,1,⟨1,v⟩,⟨1,v⟩,⟨0,aq⟩,1,1⟩
def Oc(v:C):aN:=⟨2,1,qQ,(LP v)⟩
def LO(v:C):aA:=⟨3,2,aB,[v],[v]⟩
def Hh(v:C):aN:=⟨1,1,(LO v),Cl⟩
def LN(v:C):ao:=⟨3,1,3,aB,1,⟨1,v⟩,⟨1,v⟩,⟨0,aq⟩,1,1⟩
def Ob(v:C):aN:=⟨2,1,qQ,(LN v)⟩
def AO(v:C):aD:=⟨0,1,2,3,aB,v,[v],[v],[v],[(LS v),(LQ v),(LO v)]⟩
def AN(v:C):aD:=⟨1,1,2,3,aB,v,[v],[v],[v],[(LV v),(LQ v),(LO v)]⟩
def AM(v:C):aD:=⟨2,1,2,3,aB,v,[v],[v],[v],[(LV v),(LS v),(LO v)]⟩
def AL(v:C):aD:=⟨3,1,2,2,aB,v,[v],[v],[v],[(LV v),(LS v),(LQ v)]⟩
def LM(v:C):ao:=⟨0,1,5,aB,2,⟨2,v⟩,⟨1,v⟩,⟨0,aq⟩,1,1⟩
def Oa(v:C):aN:=⟨2,1,qQ,(LM v)⟩
def LL(v:C):ao:=⟨1,1,5,aB,2,⟨2,v⟩,⟨1,v⟩,⟨0,aq⟩,1,1⟩
def N9(v:C):aN:=⟨2,1,qQ,(LL v)⟩
def LJ(v:C):ao:=⟨2,1,5,aB,2,⟨2,v⟩,⟨1,v⟩,⟨0,aq⟩,1,1⟩
def N8(v:C):aN:=⟨2,1,qQ,(LJ v)⟩
def LI(v:C):ao:=⟨3,1,5,aB,2,⟨2,v⟩,⟨1,v⟩,⟨0,aq⟩,1,1⟩
def N7(v:C):aN:=⟨2,1,qQ,(LI v)⟩
def kh(v:C):ao:=⟨0,1,6,aB,3,⟨1,v⟩,⟨0,aq⟩,⟨0,aq⟩,1,1⟩
def jc(v:C):aN:=⟨2,1,qQ,(kh v)⟩
def kg(v:C):ao:=⟨1,1,6,aB,3,⟨1,v⟩,⟨0,aq⟩,⟨0,aq⟩,1,1⟩
def jb(v:C):aN:=⟨2,1,qQ,(kg v)⟩
def ke(v:C):ao:=⟨2,1,6,aB,3,⟨1,v⟩,⟨0,aq⟩,⟨0,aq⟩,1,1⟩
def ja(v:C):aN:=⟨2,1,qQ,(ke v)⟩
def kc(v:C):ao:=⟨3,1,6,aB,3,⟨1,v⟩,⟨0,aq⟩,⟨0,aq⟩,1,1⟩
def iZ(v:C):aN:=⟨2,1,qQ,(kc v)⟩
def O6(v:C):aI:=⟨0,[⟨0,false,fV,[⟨(q0 v),(q1 v),⟨0,(-1)⟩,1,2,true,v⟩]⟩],0,⟨[],0,[],[]⟩,[[fV]]⟩
def Uc(v:C):aI:=⟨1,[⟨0,false,fV,[⟨(q0 v),(q1 v),⟨1,(-1)⟩,1,2,true,v⟩]⟩],0,⟨[],0,[],[]⟩,[[fV]]⟩
def Ub(v:C):aI:=⟨2,[⟨0,false,fV,[⟨(q0 v),(q1 v),⟨1,(-1)⟩,1,2,true,v⟩]⟩],0,⟨[],0,[],[]⟩,[[fV]]⟩
def Ua(v:C):aI:=⟨3,[⟨0,false,fV,[⟨(q0 v),(q1 v),⟨1,(-1)⟩,1,2,true,v⟩]⟩],0,⟨[],0,[],[]⟩,[[fV]]⟩
def T9(v:C):aI:=⟨4,[⟨0,false,fV,[⟨(q0 v),(q1 v),⟨1,(-1)⟩,1,2,true,v⟩]⟩],0,⟨[],0,[],[]⟩,[[fV]]⟩
def T8(v:C):aI:=⟨5,[⟨0,false,fV,[⟨(q0 v),(q1 v),⟨1,(-1)⟩,1,2,true,v⟩]⟩],0,⟨[],0,[],[]⟩,[[fV]]⟩
def T7(v:C):aI:=⟨6,[⟨0,false,fV,[⟨(q0 v),(q1 v),⟨1,(-1)⟩,1,2,true,v⟩]⟩],0,⟨[],0,[],[]⟩,[[fV]]⟩
def T6(v:C):aI:=⟨7,[⟨0,false,fV,[⟨(q0 v),(q1 v),⟨1,(-1)⟩,1,2,true,v⟩]⟩],0,⟨[],0,[],[]⟩,[[fV]]⟩
def T5(v:C):aI:=⟨8,[⟨0,false,fV,[⟨(q0 v),(q1 v),⟨1,(-1)⟩,1,2,true,v⟩]⟩],0,⟨[],0,[],[]⟩,[[fV]]⟩
def T4(v:C):aI:=⟨9,[⟨0,false,fV,[⟨(q0 v),(q1 v),⟨1,(-1)⟩,1,2,true,v⟩]⟩],0,⟨[],0,[],[]⟩,[[fV]]⟩
def P3(v:C):aI:=⟨10,[⟨0,false,fV,[⟨(q0 v),(q1 v),⟨1,(-1)⟩,1,2,true,v⟩]⟩],0,⟨[],0,[],[]⟩,[[fV]]⟩
def P2(v:C):aI:=⟨11,[⟨0,false,fV,[⟨(q0 v),(q1 v),⟨1,(-1)⟩,1,2,true,v⟩]⟩],0,⟨[],0,[],[]⟩,[[fV]]⟩
def G4(v:C):aI:=⟨12,[⟨0,false,fV,[⟨(q0 v),(q1 v),⟨1,(-1)⟩,1,2,true,v⟩]⟩],0,⟨[],0,[],[]⟩,[[fV]]⟩
def O5(v:C):aI:=⟨0,[⟨0,false,bg,[⟨(q2 v),(q3 v),⟨0,(-1)⟩,1,2,false,aq⟩]⟩,⟨1,false,bg,[⟨(q4 v),(q5 v),⟨0,(-1)⟩,1,2,false,aq⟩]⟩],0,⟨[],0,[],[]⟩,[[bg],[bg]]⟩
def T1(v:C):aI:=⟨1,[⟨0,false,bg,[⟨(q2 v),(q3 v),⟨1,(-1)⟩,1,2,false,aq⟩]⟩,⟨1,false,bg,[⟨(q4 v),(q5 v),⟨1,(-1)⟩,1,2,false,aq⟩]⟩],0,⟨[⟨2,0,1,0,(q8 v)⟩,⟨2,0,1,1,⟨2,1,q9,(V7 v)⟩⟩,⟨2,1,0,2,⟨1,1,V6,q7⟩⟩,⟨2,1,0,3,⟨2,1,q9,(V5 v)⟩⟩],4,[],[]⟩,[[bg],[bg]]⟩
def T0(v:C):aI:=⟨2,[⟨0,false,bg,[⟨⟨0,1,2,1,bg,v,[v],[],[],[V6]⟩,⟨0,1,2,bg,1,⟨1,v⟩,⟨1,v⟩,⟨0,aq⟩,⟨0,aq⟩,0,0,v,[(V5 v)]⟩,⟨1,4⟩,2,5,false,aq⟩]⟩,⟨1,false,bg,[⟨(V4 v),⟨1,1,2,bg,1,⟨1,v⟩,⟨1,v⟩,⟨0,aq⟩,⟨0,aq⟩,0,0,v,[(V7 v)]⟩,⟨1,4⟩,2,5,false,aq⟩]⟩],0,⟨[⟨3,0,1,4,(q8 v)⟩,⟨3,0,1,5,⟨2,1,q9,(V3 v)⟩⟩,⟨3,1,0,6,(SL v)⟩,⟨3,1,0,7,⟨2,1,q9,(V1 v)⟩⟩],8,[],[]⟩,[[bg],[bg]]⟩
def TZ(v:C):aI:=⟨3,[⟨0,false,bg,[⟨(Es v),⟨0,1,3,bg,1,⟨1,v⟩,⟨1,v⟩,⟨0,aq⟩,⟨1,v⟩,1,0,v,[(V1 v)]⟩,⟨1,4⟩,2,5,false,aq⟩]⟩,⟨1,false,bg,[⟨(V4 v),⟨1,1,3,bg,1,⟨1,v⟩,⟨1,v⟩,⟨0,aq⟩,⟨1,v⟩,1,0,v,[(V3 v)]⟩,⟨1,4⟩,2,5,false,aq⟩]⟩],0,⟨[⟨4,0,1,8,(VZ v)⟩,⟨4,0,1,9,⟨2,1,q9,(VY v)⟩⟩,⟨4,1,0,10,(SL v)⟩,⟨4,1,0,11,⟨2,1,q9,(VX v)⟩⟩],12,[],[]⟩,[[bg],[bg]]⟩
def TY(v:C):aI:=⟨4,[⟨0,false,bg,[⟨(Es v),⟨0,1,5,bg,2,⟨2,v⟩,⟨1,v⟩,⟨0,aq⟩,⟨1,v⟩,1,1,v,[(VX v)]⟩,⟨1,(-1)⟩,2,5,false,aq⟩]⟩,⟨1,false,bg,[⟨(FW v),⟨1,1,5,bg,2,⟨2,v⟩,⟨1,v⟩,⟨0,aq⟩,⟨1,v⟩,1,1,v,[(VY v)]⟩,⟨1,(-1)⟩,2,5,false,aq⟩]⟩],0,⟨[⟨5,0,1,12,(VZ v)⟩,⟨5,0,1,13,⟨2,1,q9,(VW v)⟩⟩,⟨5,1,0,14,(SL v)⟩,⟨5,1,0,15,⟨2,1,q9,(VV v)⟩⟩],16,[],[]⟩,[[bg],[bg]]⟩
def TX(v:C):aI:=⟨5,[⟨0,false,bg,[⟨(Es v),⟨0,1,6,bg,3,⟨1,v⟩,⟨0,aq⟩,⟨0,aq⟩,⟨0,aq⟩,1,1,v,[(VV v)]⟩,⟨1,(-1)⟩,2,5,true,v⟩]⟩,⟨1,false,bg,[⟨(FW v),⟨1,1,6,bg,3,⟨1,v⟩,⟨0,aq⟩,⟨0,aq⟩,⟨0,aq⟩,1,1,v,[(VW v)]⟩,⟨1,(-1)⟩,2,5,true,v⟩]⟩],0,⟨[⟨6,0,1,16,(H9 v)⟩,⟨6,1,0,17,(H7 v)⟩],18,[],[]⟩,[[bg],[bg]]⟩
def TW(v:C):aI:=⟨6,[⟨0,false,bg,[⟨(Es v),⟨0,1,6,bg,3,⟨1,v⟩,⟨0,aq⟩,⟨0,aq⟩,⟨0,aq⟩,1,1,v,[(H8 v)]⟩,⟨1,(-1)⟩,2,5,true,v⟩]⟩,⟨1,false,bg,[⟨(FW v),⟨1,1,6,bg,3,⟨1,v⟩,⟨0,aq⟩,⟨0,aq⟩,⟨0,aq⟩,1,1,v,[(Ia v)]⟩,⟨1,(-1)⟩,2,5,true,v⟩]⟩],0,⟨[⟨7,0,1,18,(H9 v)⟩,⟨7,1,0,19,(H7 v)⟩],20,[],[]⟩,[[bg],[bg]]⟩
def TV(v:C):aI:=⟨7,[⟨0,false,bg,[⟨(Es v),⟨0,1,6,bg,3,⟨1,v⟩,⟨0,aq⟩,⟨0,aq⟩,⟨0,aq⟩,1,1,v,[(H8 v)]⟩,⟨1,(-1)⟩,2,5,true,v⟩]⟩,⟨1,false,bg,[⟨(FW v),⟨1,1,6,bg,3,⟨1,v⟩,⟨0,aq⟩,⟨0,aq⟩,⟨0,aq⟩,1,1,v,[(Ia v)]⟩,⟨1,(-1)⟩,2,5,true,v⟩]⟩],0,⟨[⟨8,0,1,20,(H9 v)⟩,⟨8,1,0,21,(H7 v)⟩],22,[],[]⟩,[[bg],[bg]]⟩
def TT(v:C):aI:=⟨8,[⟨0,false,bg,[⟨(Es v),⟨0,1,6,bg,3,⟨1,v⟩,⟨0,aq⟩,⟨0,aq⟩,⟨0,aq⟩,1,1,v,[(H8 v)]⟩,⟨1,(-1)⟩,2,5,true,v⟩]⟩,⟨1,false,bg,[⟨(FW v),⟨1,1,6,bg,3,⟨1,v⟩,⟨0,aq⟩,⟨0,aq⟩,⟨0,aq⟩,1,1,v,[(Ia v)]⟩,⟨1,(-1)⟩,2,5,true,v⟩]⟩],0,⟨[⟨9,0,1,22,(H9 v)⟩,⟨9,1,0,23,(H7 v)⟩],24,[],[]⟩,[[bg],[bg]]⟩
def TS(v:C):aI:=⟨9,[⟨0,false,bg,[⟨(Es v),⟨0,1,6,bg,3,⟨1,v⟩,⟨0,aq⟩,⟨0,aq⟩,⟨0,aq⟩,1,1,v,[(H8 v)]⟩,⟨1,(-1)⟩,2,5,true,v⟩]⟩,⟨1,false,bg,[⟨(FW v),⟨1,1,6,bg,3,⟨1,v⟩,⟨0,aq⟩,⟨0,aq⟩,⟨0,aq⟩,1,1,v,[(Ia v)]⟩,⟨1,(-1)⟩,2,5,true,v⟩]⟩],0,⟨[⟨10,0,1,24,(H9 v)⟩,⟨10,1,0,25,(H7 v)⟩],26,[],[]⟩,[[bg],[bg]]⟩
def P1(v:C):aI:=⟨10,[⟨0,false,bg,[⟨(Es v),⟨0,1,6,bg,3,⟨1,v⟩,⟨0,aq⟩,⟨0,aq⟩,⟨0,aq⟩,1,1,v,[(H8 v)]⟩,⟨1,(-1)⟩,2,5,true,v⟩]⟩,⟨1,false,bg,[⟨(FW v),⟨1,1,6,bg,3,⟨1,v⟩,⟨0,aq⟩,⟨0,aq⟩,⟨0,aq⟩,1,1,v,[(Ia v)]⟩,⟨1,(-1)⟩,2,5,true,v⟩]⟩],0,⟨[⟨11,0,1,26,(H9 v)⟩,⟨11,1,0,27,(H7 v)⟩],28,[],[]⟩,[[bg],[bg]]⟩
def P0(v:C):aI:=⟨11,[⟨0,false,bg,[⟨(Es v),⟨0,1,6,bg,3,⟨1,v⟩,⟨0,aq⟩,⟨0,aq⟩,⟨0,aq⟩,1,1,v,[(H8 v)]⟩,⟨1,(-1)⟩,2,5,true,v⟩]⟩,⟨1,false,bg,[⟨(FW v),⟨1,1,6,bg,3,⟨1,v⟩,⟨0,aq⟩,⟨0,aq⟩,⟨0,aq⟩,1,1,v,[(Ia v)]⟩,⟨1,(-1)⟩,2,5,true,v⟩]⟩],0,⟨[⟨12,0,1,28,(H9 v)⟩,⟨12,1,0,29,(H7 v)⟩],30,[],[]⟩,[[bg],[bg]]⟩
def G3(v:C):aI:=⟨12,[⟨0,false,bg,[⟨(Es v),⟨0,1,6,bg,3,⟨1,v⟩,⟨0,aq⟩,⟨0,aq⟩,⟨0,aq⟩,1,1,v,[(H8 v)]⟩,⟨1,(-1)⟩,2,5,true,v⟩]⟩,⟨1,false,bg,[⟨(FW v),⟨1,1,6,bg,3,⟨1,v⟩,⟨0,aq⟩,⟨0,aq⟩,⟨0,aq⟩,1,1,v,[(Ia v)]⟩,⟨1,(-1)⟩,2,5,true,v⟩]⟩],0,⟨[⟨13,0,1,30,(H9 v)⟩,⟨13,1,0,31,(H7 v)⟩],32,[],[]⟩,[[bg],[bg]]⟩
def O4(v:C):aI:=⟨0,[⟨0,false,aS,[⟨(VU v),(VT v),⟨0,(-1)⟩,1,2,false,aq⟩]⟩,⟨1,false,aS,[⟨(VR v),(VQ v),⟨0,(-1)⟩,1,2,false,aq⟩]⟩,⟨2,false,aS,[⟨(VP v),(VO v),⟨0,(-1)⟩,1,2,false,aq⟩]⟩],0,⟨[],0,[],[]⟩,[[aS],[aS],[aS]]⟩
def TR(v:C):aI:=⟨1,[⟨0,false,aS,[⟨(VU v),(VT v),⟨1,(-1)⟩,1,2,false,aq⟩]⟩,⟨1,false,aS,[⟨(VR v),(VQ v),⟨1,(-1)⟩,1,2,false,aq⟩]⟩,⟨2,false,aS,[⟨(VP v),(VO v),⟨1,(-1)⟩,1,2,false,aq⟩]⟩],0,⟨[⟨2,0,1,0,(VN v)⟩,⟨2,0,1,2,(VM v)⟩,⟨2,0,2,1,(VN v)⟩,⟨2,0,2,3,(VM v)⟩,⟨2,1,0,4,VL⟩,⟨2,1,0,6,(VK v)⟩,⟨2,1,2,5,VL⟩,⟨2,1,2,7,(VK v)⟩,⟨2,2,0,8,(VJ v)⟩,⟨2,2,0,10,(VI v)⟩,⟨2,2,1,9,(VJ v)⟩,⟨2,2,1,11,(VI v)⟩],12,[],[]⟩,[[aS],[aS],[aS]]⟩
def TP(v:C):aI:=⟨2,[⟨0,false,aS,[⟨⟨0,1,2,2,aS,v,[v],[v],[],[SI,(SF v)]⟩,⟨0,1,2,aS,1,⟨1,v⟩,⟨1,v⟩,⟨0,aq⟩,⟨0,aq⟩,0,0,v,[(SH v),(SE v)]⟩,⟨1,4⟩,2,5,false,aq⟩]⟩,⟨1,false,aS,[⟨⟨1,1,2,2,aS,v,[v],[v],[],[(SK v),(SF v)]⟩,⟨1,1,2,aS,1,⟨1,v⟩,⟨1,v⟩,⟨0,aq⟩,⟨0,aq⟩,0,0,v,[(SJ v),(SE v)]⟩,⟨1,4⟩,2,5,false,aq⟩]⟩,⟨2,false,aS,[⟨⟨2,1,2,2,aS,v,[v],[v],[],[(SK v),SI]⟩,⟨2,1,2,aS,1,⟨1,v⟩,⟨1,v⟩,⟨0,aq⟩,⟨0,aq⟩,0,0,v,[(SJ v),(SH v)]⟩,⟨1,4⟩,2,5,false,aq⟩]⟩],0,⟨[⟨3,0,1,12,(K0 v)⟩,⟨3,0,1,14,(VH v)⟩,⟨3,0,2,13,(K0 v)⟩,⟨3,0,2,15,(VH v)⟩,⟨3,1,0,16,(KZ v)⟩,⟨3,1,0,18,(VG v)⟩,⟨3,1,2,17,(KZ v)⟩,⟨3,1,2,19,(VG v)⟩,⟨3,2,0,20,(KY v)⟩,⟨3,2,0,22,(VF v)⟩,⟨3,2,1,21,(KY v)⟩,⟨3,2,1,23,(VF v)⟩],24,[],[]⟩,[[aS],[aS],[aS]]⟩
def TO(v:C):aI:=⟨3,[⟨0,false,aS,[⟨(Er v),⟨0,1,3,aS,1,⟨1,v⟩,⟨1,v⟩,⟨0,aq⟩,⟨1,v⟩,1,0,v,[(Sx v),(Sv v)]⟩,⟨1,4⟩,2,5,false,aq⟩]⟩,⟨1,false,aS,[⟨(Ep v),⟨1,1,3,aS,1,⟨1,v⟩,⟨1,v⟩,⟨0,aq⟩,⟨1,v⟩,1,0,v,[(Sz v),(Sv v)]⟩,⟨1,4⟩,2,5,false,aq⟩]⟩,⟨2,false,aS,[⟨(Eo v),⟨2,1,3,aS,1,⟨1,v⟩,⟨1,v⟩,⟨0,aq⟩,⟨1,v⟩,1,0,v,[(Sz v),(Sx v)]⟩,⟨1,4⟩,2,5,false,aq⟩]⟩],0,⟨[⟨4,0,1,24,(K0 v)⟩,⟨4,0,1,26,(VE v)⟩,⟨4,0,2,25,(K0 v)⟩,⟨4,0,2,27,(VE v)⟩,⟨4,1,0,28,(KZ v)⟩,⟨4,1,0,30,(VD v)⟩,⟨4,1,2,29,(KZ v)⟩,⟨4,1,2,31,(VD v)⟩,⟨4,2,0,32,(KY v)⟩,⟨4,2,0,34,(VC v)⟩,⟨4,2,1,33,(KY v)⟩,⟨4,2,1,35,(VC v)⟩],36,[],[]⟩,[[aS],[aS],[aS]]⟩
def TN(v:C):aI:=⟨4,[⟨0,false,aS,[⟨(Er v),⟨0,1,5,aS,2,⟨2,v⟩,⟨1,v⟩,⟨0,aq⟩,⟨1,v⟩,1,1,v,[(Ss v),(Sr v)]⟩,⟨1,(-1)⟩,2,5,false,aq⟩]⟩,⟨1,false,aS,[⟨(Ep v),⟨1,1,5,aS,2,⟨2,v⟩,⟨1,v⟩,⟨0,aq⟩,⟨1,v⟩,1,1,v,[(Su v),(Sr v)]⟩,⟨1,(-1)⟩,2,5,false,aq⟩]⟩,⟨2,false,aS,[⟨(Eo v),⟨2,1,5,aS,2,⟨2,v⟩,⟨1,v⟩,⟨0,aq⟩,⟨1,v⟩,1,1,v,[(Su v),(Ss v)]⟩,⟨1,(-1)⟩,2,5,false,aq⟩]⟩],0,⟨[⟨5,0,1,36,(K0 v)⟩,⟨5,0,1,38,(VB v)⟩,⟨5,0,2,37,(K0 v)⟩,⟨5,0,2,39,(VB v)⟩,⟨5,1,0,40,(KZ v)⟩,⟨5,1,0,42,(VA v)⟩,⟨5,1,2,41,(KZ v)⟩,⟨5,1,2,43,(VA v)⟩,⟨5,2,0,44,(KY v)⟩,⟨5,2,0,46,(Vz v)⟩,⟨5,2,1,45,(KY v)⟩,⟨5,2,1,47,(Vz v)⟩],48,[],[]⟩,[[aS],[aS],[aS]]⟩
def TM(v:C):aI:=⟨5,[⟨0,false,aS,[⟨(Er v),⟨0,1,6,aS,3,⟨1,v⟩,⟨0,aq⟩,⟨0,aq⟩,⟨0,aq⟩,1,1,v,[(Sp v),(Sn v)]⟩,⟨1,(-1)⟩,2,5,true,v⟩]⟩,⟨1,false,aS,[⟨(Ep v),⟨1,1,6,aS,3,⟨1,v⟩,⟨0,aq⟩,⟨0,aq⟩,⟨0,aq⟩,1,1,v,[(Sq v),(Sn v)]⟩,⟨1,(-1)⟩,2,5,true,v⟩]⟩,⟨2,false,aS,[⟨(Eo v),⟨2,1,6,aS,3,⟨1,v⟩,⟨0,aq⟩,⟨0,aq⟩,⟨0,aq⟩,1,1,v,[(Sq v),(Sp v)]⟩,⟨1,(-1)⟩,2,5,true,v⟩]⟩],0,⟨[⟨6,0,1,48,(vA v)⟩,⟨6,0,2,49,(vA v)⟩,⟨6,1,0,50,(vz v)⟩,⟨6,1,2,51,(vz v)⟩,⟨6,2,0,52,(vy v)⟩,⟨6,2,1,53,(vy v)⟩],54,[],[]⟩,[[aS],[aS],[aS]]⟩
def TL(v:C):aI:=⟨6,[⟨0,false,aS,[⟨(Er v),⟨0,1,6,aS,3,⟨1,v⟩,⟨0,aq⟩,⟨0,aq⟩,⟨0,aq⟩,1,1,v,[(xh v),(xg v)]⟩,⟨1,(-1)⟩,2,5,true,v⟩]⟩,⟨1,false,aS,[⟨(Ep v),⟨1,1,6,aS,3,⟨1,v⟩,⟨0,aq⟩,⟨0,aq⟩,⟨0,aq⟩,1,1,v,[(xi v),(xg v)]⟩,⟨1,(-1)⟩,2,5,true,v⟩]⟩,⟨2,false,aS,[⟨(Eo v),⟨2,1,6,aS,3,⟨1,v⟩,⟨0,aq⟩,⟨0,aq⟩,⟨0,aq⟩,1,1,v,[(xi v),(xh v)]⟩,⟨1,(-1)⟩,2,5,true,v⟩]⟩],0,⟨[⟨7,0,1,54,(vA v)⟩,⟨7,0,2,55,(vA v)⟩,⟨7,1,0,56,(vz v)⟩,⟨7,1,2,57,(vz v)⟩,⟨7,2,0,58,(vy v)⟩,⟨7,2,1,59,(vy v)⟩],60,[],[]⟩,[[aS],[aS],[aS]]⟩
def TJ(v:C):aI:=⟨7,[⟨0,false,aS,[⟨(Er v),⟨0,1,6,aS,3,⟨1,v⟩,⟨0,aq⟩,⟨0,aq⟩,⟨0,aq⟩,1,1,v,[(xh v),(xg v)]⟩,⟨1,(-1)⟩,2,5,true,v⟩]⟩,⟨1,false,aS,[⟨(Ep v),⟨1,1,6,aS,3,⟨1,v⟩,⟨0,aq⟩,⟨0,aq⟩,⟨0,aq⟩,1,1,v,[(xi v),(xg v)]⟩,⟨1,(-1)⟩,2,5,true,v⟩]⟩,⟨2,false,aS,[⟨(Eo v),⟨2,1,6,aS,3,⟨1,v⟩,⟨0,aq⟩,⟨0,aq⟩,⟨0,aq⟩,1,1,v,[(xi v),(xh v)]⟩,⟨1,(-1)⟩,2,5,true,v⟩]⟩],0,⟨[⟨8,0,1,60,(vA v)⟩,⟨8,0,2,61,(vA v)⟩,⟨8,1,0,62,(vz v)⟩,⟨8,1,2,63,(vz v)⟩,⟨8,2,0,64,(vy v)⟩,⟨8,2,1,65,(vy v)⟩],66,[],[]⟩,[[aS],[aS],[aS]]⟩
def TH(v:C):aI:=⟨8,[⟨0,false,aS,[⟨(Er v),⟨0,1,6,aS,3,⟨1,v⟩,⟨0,aq⟩,⟨0,aq⟩,⟨0,aq⟩,1,1,v,[(xh v),(xg v)]⟩,⟨1,(-1)⟩,2,5,true,v⟩]⟩,⟨1,false,aS,[⟨(Ep v),⟨1,1,6,aS,3,⟨1,v⟩,⟨0,aq⟩,⟨0,aq⟩,⟨0,aq⟩,1,1,v,[(xi v),(xg v)]⟩,⟨1,(-1)⟩,2,5,true,v⟩]⟩,⟨2,false,aS,[⟨(Eo v),⟨2,1,6,aS,3,⟨1,v⟩,⟨0,aq⟩,⟨0,aq⟩,⟨0,aq⟩,1,1,v,[(xi v),(xh v)]⟩,⟨1,(-1)⟩,2,5,true,v⟩]⟩],0,⟨[⟨9,0,1,66,(vA v)⟩,⟨9,0,2,67,(vA v)⟩,⟨9,1,0,68,(vz v)⟩,⟨9,1,2,69,(vz v)⟩,⟨9,2,0,70,(vy v)⟩,⟨9,2,1,71,(vy v)⟩],72,[],[]⟩,[[aS],[aS],[aS]]⟩
def TG(v:C):aI:=⟨9,[⟨0,false,aS,[⟨(Er v),⟨0,1,6,aS,3,⟨1,v⟩,⟨0,aq⟩,⟨0,aq⟩,⟨0,aq⟩,1,1,v,[(xh v),(xg v)]⟩,⟨1,(-1)⟩,2,5,true,v⟩]⟩,⟨1,false,aS,[⟨(Ep v),⟨1,1,6,aS,3,⟨1,v⟩,⟨0,aq⟩,⟨0,aq⟩,⟨0,aq⟩,1,1,v,[(xi v),(xg v)]⟩,⟨1,(-1)⟩,2,5,true,v⟩]⟩,⟨2,false,aS,[⟨(Eo v),⟨2,1,6,aS,3,⟨1,v⟩,⟨0,aq⟩,⟨0,aq⟩,⟨0,aq⟩,1,1,v,[(xi v),(xh v)]⟩,⟨1,(-1)⟩,2,5,true,v⟩]⟩],0,⟨[⟨10,0,1,72,(vA v)⟩,⟨10,0,2,73,(vA v)⟩,⟨10,1,0,74,(vz v)⟩,⟨10,1,2,75,(vz v)⟩,⟨10,2,0,76,(vy v)⟩,⟨10,2,1,77,(vy v)⟩],78,[],[]⟩,[[aS],[aS],[aS]]⟩
def PZ(v:C):aI:=⟨10,[⟨0,false,aS,[⟨(Er v),⟨0,1,6,aS,3,⟨1,v⟩,⟨0,aq⟩,⟨0,aq⟩,⟨0,aq⟩,1,1,v,[(xh v),(xg v)]⟩,⟨1,(-1)⟩,2,5,true,v⟩]⟩,⟨1,false,aS,[⟨(Ep v),⟨1,1,6,aS,3,⟨1,v⟩,⟨0,aq⟩,⟨0,aq⟩,⟨0,aq⟩,1,1,v,[(xi v),(xg v)]⟩,⟨1,(-1)⟩,2,5,true,v⟩]⟩,⟨2,false,aS,[⟨(Eo v),⟨2,1,6,aS,3,⟨1,v⟩,⟨0,aq⟩,⟨0,aq⟩,⟨0,aq⟩,1,1,v,[(xi v),(xh v)]⟩,⟨1,(-1)⟩,2,5,true,v⟩]⟩],0,⟨[⟨11,0,1,78,(vA v)⟩,⟨11,0,2,79,(vA v)⟩,⟨11,1,0,80,(vz v)⟩,⟨11,1,2,81,(vz v)⟩,⟨11,2,0,82,(vy v)⟩,⟨11,2,1,83,(vy v)⟩],84,[],[]⟩,[[aS],[aS],[aS]]⟩
def PY(v:C):aI:=⟨11,[⟨0,false,aS,[⟨(Er v),⟨0,1,6,aS,3,⟨1,v⟩,⟨0,aq⟩,⟨0,aq⟩,⟨0,aq⟩,1,1,v,[(xh v),(xg v)]⟩,⟨1,(-1)⟩,2,5,true,v⟩]⟩,⟨1,false,aS,[⟨(Ep v),⟨1,1,6,aS,3,⟨1,v⟩,⟨0,aq⟩,⟨0,aq⟩,⟨0,aq⟩,1,1,v,[(xi v),(xg v)]⟩,⟨1,(-1)⟩,2,5,true,v⟩]⟩,⟨2,false,aS,[⟨(Eo v),⟨2,1,6,aS,3,⟨1,v⟩,⟨0,aq⟩,⟨0,aq⟩,⟨0,aq⟩,1,1,v,[(xi v),(xh v)]⟩,⟨1,(-1)⟩,2,5,true,v⟩]⟩],0,⟨[⟨12,0,1,84,(vA v)⟩,⟨12,0,2,85,(vA v)⟩,⟨12,1,0,86,(vz v)⟩,⟨12,1,2,87,(vz v)⟩,⟨12,2,0,88,(vy v)⟩,⟨12,2,1,89,(vy v)⟩],90,[],[]⟩,[[aS],[aS],[aS]]⟩
def G2(v:C):aI:=⟨12,[⟨0,false,aS,[⟨(Er v),⟨0,1,6,aS,3,⟨1,v⟩,⟨0,aq⟩,⟨0,aq⟩,⟨0,aq⟩,1,1,v,[(xh v),(xg v)]⟩,⟨1,(-1)⟩,2,5,true,v⟩]⟩,⟨1,false,aS,[⟨(Ep v),⟨1,1,6,aS,3,⟨1,v⟩,⟨0,aq⟩,⟨0,aq⟩,⟨0,aq⟩,1,1,v,[(xi v),(xg v)]⟩,⟨1,(-1)⟩,2,5,true,v⟩]⟩,⟨2,false,aS,[⟨(Eo v),⟨2,1,6,aS,3,⟨1,v⟩,⟨0,aq⟩,⟨0,aq⟩,⟨0,aq⟩,1,1,v,[(xi v),(xh v)]⟩,⟨1,(-1)⟩,2,5,true,v⟩]⟩],0,⟨[⟨13,0,1,90,(vA v)⟩,⟨13,0,2,91,(vA v)⟩,⟨13,1,0,92,(vz v)⟩,⟨13,1,2,93,(vz v)⟩,⟨13,2,0,94,(vy v)⟩,⟨13,2,1,95,(vy v)⟩],96,[],[]⟩,[[aS],[aS],[aS]]⟩
def O3(v:C):aI:=⟨0,[⟨0,false,aB,[⟨(Vy v),(Vx v),⟨0,(-1)⟩,1,2,false,aq⟩]⟩,⟨1,false,aB,[⟨(Vw v),(Vv v),⟨0,(-1)⟩,1,2,false,aq⟩]⟩,⟨2,false,aB,[⟨(Vu v),(Vt v),⟨0,(-1)⟩,1,2,false,aq⟩]⟩,⟨3,false,aB,[⟨(Vs v),(Vr v),⟨0,(-1)⟩,1,2,false,aq⟩]⟩],0,⟨[],0,[],[]⟩,[[aB],[aB],[aB],[aB]]⟩
def TF(v:C):aI:=⟨1,[⟨0,false,aB,[⟨(Vy v),(Vx v),⟨1,(-1)⟩,1,2,false,aq⟩]⟩,⟨1,false,aB,[⟨(Vw v),(Vv v),⟨1,(-1)⟩,1,2,false,aq⟩]⟩,⟨2,false,aB,[⟨(Vu v),(Vt v),⟨1,(-1)⟩,1,2,false,aq⟩]⟩,⟨3,false,aB,[⟨(Vs v),(Vr v),⟨1,(-1)⟩,1,2,false,aq⟩]⟩],0,⟨[⟨2,0,1,0,Sm⟩,⟨2,0,1,3,(Sl v)⟩,⟨2,0,2,1,Sm⟩,⟨2,0,2,4,(Sl v)⟩,⟨2,0,3,2,Sm⟩,⟨2,0,3,5,(Sl v)⟩,⟨2,1,0,6,Sk⟩,⟨2,1,0,9,(Ou v)⟩,⟨2,1,2,7,Sk⟩,⟨2,1,2,10,(Ou v)⟩,⟨2,1,3,8,Sk⟩,⟨2,1,3,11,(Ou v)⟩,⟨2,2,0,12,Ot⟩,⟨2,2,0,15,(Oq v)⟩,⟨2,2,1,13,Ot⟩,⟨2,2,1,16,(Oq v)⟩,⟨2,2,3,14,Ot⟩,⟨2,2,3,17,(Oq v)⟩,⟨2,3,0,18,(Hl v)⟩,⟨2,3,0,21,(Oo v)⟩,⟨2,3,1,19,(Hl v)⟩,⟨2,3,1,22,(Oo v)⟩,⟨2,3,2,20,(Hl v)⟩,⟨2,3,2,23,(Oo v)⟩],24,[],[]⟩,[[aB],[aB],[aB],[aB]]⟩
def TE(v:C):aI:=⟨2,[⟨0,false,aB,[⟨⟨0,1,2,2,aB,v,[v],[],[],[Pu,Md,(EO v)]⟩,⟨0,1,2,aB,1,⟨1,v⟩,⟨1,v⟩,⟨0,aq⟩,⟨0,aq⟩,0,0,v,[(Pt v),(Mb v),(Ma v)]⟩,⟨1,4⟩,2,5,false,aq⟩]⟩,⟨1,false,aB,[⟨⟨1,1,2,2,aB,v,[v],[],[],[Pw,Md,(EO v)]⟩,⟨1,1,2,aB,1,⟨1,v⟩,⟨1,v⟩,⟨0,aq⟩,⟨0,aq⟩,0,0,v,[(Pv v),(Mb v),(Ma v)]⟩,⟨1,4⟩,2,5,false,aq⟩]⟩,⟨2,false,aB,[⟨⟨2,1,2,2,aB,v,[v],[],[],[Pw,Pu,(EO v)]⟩,⟨2,1,2,aB,1,⟨1,v⟩,⟨1,v⟩,⟨0,aq⟩,⟨0,aq⟩,0,0,v,[(Pv v),(Pt v),(Ma v)]⟩,⟨1,4⟩,2,5,false,aq⟩]⟩,⟨3,false,aB,[⟨⟨3,1,2,1,aB,v,[v],[],[],[Pw,Pu,Md]⟩,⟨3,1,2,aB,1,⟨1,v⟩,⟨1,v⟩,⟨0,aq⟩,⟨0,aq⟩,0,0,v,[(Pv v),(Pt v),(Mb v)]⟩,⟨1,4⟩,2,5,false,aq⟩]⟩],0,⟨[⟨3,0,1,24,(On v)⟩,⟨3,0,1,27,(Om v)⟩,⟨3,0,2,25,(On v)⟩,⟨3,0,2,28,(Om v)⟩,⟨3,0,3,26,(On v)⟩,⟨3,0,3,29,(Om v)⟩,⟨3,1,0,30,(Ol v)⟩,⟨3,1,0,33,(Oj v)⟩,⟨3,1,2,31,(Ol v)⟩,⟨3,1,2,34,(Oj v)⟩,⟨3,1,3,32,(Ol v)⟩,⟨3,1,3,35,(Oj v)⟩,⟨3,2,0,36,(Oi v)⟩,⟨3,2,0,39,(Oh v)⟩,⟨3,2,1,37,(Oi v)⟩,⟨3,2,1,40,(Oh v)⟩,⟨3,2,3,38,(Oi v)⟩,⟨3,2,3,41,(Oh v)⟩,⟨3,3,0,42,(Hl v)⟩,⟨3,3,0,45,(Og v)⟩,⟨3,3,1,43,(Hl v)⟩,⟨3,3,1,46,(Og v)⟩,⟨3,3,2,44,(Hl v)⟩,⟨3,3,2,47,(Og v)⟩],48,[],[]⟩,[[aB],[aB],[aB],[aB]]⟩
def TD(v:C):aI:=⟨3,[⟨0,false,aB,[⟨⟨0,1,2,3,aB,v,[v],[v],[],[(L6 v),(LY v),(EO v)]⟩,⟨0,1,3,aB,1,⟨1,v⟩,⟨1,v⟩,⟨0,aq⟩,⟨1,v⟩,1,0,v,[(LZ v),(LX v),(LW v)]⟩,⟨1,4⟩,2,5,false,aq⟩]⟩,⟨1,false,aB,[⟨⟨1,1,2,3,aB,v,[v],[v],[],[(L9 v),(LY v),(EO v)]⟩,⟨1,1,3,aB,1,⟨1,v⟩,⟨1,v⟩,⟨0,aq⟩,⟨1,v⟩,1,0,v,[(L8 v),(LX v),(LW v)]⟩,⟨1,4⟩,2,5,false,aq⟩]⟩,⟨2,false,aB,[⟨⟨2,1,2,3,aB,v,[v],[v],[],[(L9 v),(L6 v),(EO v)]⟩,⟨2,1,3,aB,1,⟨1,v⟩,⟨1,v⟩,⟨0,aq⟩,⟨1,v⟩,1,0,v,[(L8 v),(LZ v),(LW v)]⟩,⟨1,4⟩,2,5,false,aq⟩]⟩,⟨3,false,aB,[⟨⟨3,1,2,2,aB,v,[v],[v],[],[(L9 v),(L6 v),(LY v)]⟩,⟨3,1,3,aB,1,⟨1,v⟩,⟨1,v⟩,⟨0,aq⟩,⟨1,v⟩,1,0,v,[(L8 v),(LZ v),(LX v)]⟩,⟨1,4⟩,2,5,false,aq⟩]⟩],0,⟨[⟨4,0,1,48,(Hk v)⟩,⟨4,0,1,51,(Of v)⟩,⟨4,0,2,49,(Hk v)⟩,⟨4,0,2,52,(Of v)⟩,⟨4,0,3,50,(Hk v)⟩,⟨4,0,3,53,(Of v)⟩,⟨4,1,0,54,(Hj v)⟩,⟨4,1,0,57,(Oe v)⟩,⟨4,1,2,55,(Hj v)⟩,⟨4,1,2,58,(Oe v)⟩,⟨4,1,3,56,(Hj v)⟩,⟨4,1,3,59,(Oe v)⟩,⟨4,2,0,60,(Hi v)⟩,⟨4,2,0,63,(Oc v)⟩,⟨4,2,1,61,(Hi v)⟩,⟨4,2,1,64,(Oc v)⟩,⟨4,2,3,62,(Hi v)⟩,⟨4,2,3,65,(Oc v)⟩,⟨4,3,0,66,(Hh v)⟩,⟨4,3,0,69,(Ob v)⟩,⟨4,3,1,67,(Hh v)⟩,⟨4,3,1,70,(Ob v)⟩,⟨4,3,2,68,(Hh v)⟩,⟨4,3,2,71,(Ob v)⟩],72,[],[]⟩,[[aB],[aB],[aB],[aB]]⟩
def TC(v:C):aI:=⟨4,[⟨0,false,aB,[⟨(AO v),⟨0,1,5,aB,2,⟨2,v⟩,⟨1,v⟩,⟨0,aq⟩,⟨1,v⟩,1,1,v,[(LR v),(LP v),(LN v)]⟩,⟨1,(-1)⟩,2,5,false,aq⟩]⟩,⟨1,false,aB,[⟨(AN v),⟨1,1,5,aB,2,⟨2,v⟩,⟨1,v⟩,⟨0,aq⟩,⟨1,v⟩,1,1,v,[(LU v),(LP v),(LN v)]⟩,⟨1,(-1)⟩,2,5,false,aq⟩]⟩,⟨2,false,aB,[⟨(AM v),⟨2,1,5,aB,2,⟨2,v⟩,⟨1,v⟩,⟨0,aq⟩,⟨1,v⟩,1,1,v,[(LU v),(LR v),(LN v)]⟩,⟨1,(-1)⟩,2,5,false,aq⟩]⟩,⟨3,false,aB,[⟨(AL v),⟨3,1,5,aB,2,⟨2,v⟩,⟨1,v⟩,⟨0,aq⟩,⟨1,v⟩,1,1,v,[(LU v),(LR v),(LP v)]⟩,⟨1,(-1)⟩,2,5,false,aq⟩]⟩],0,⟨[⟨5,0,1,72,(Hk v)⟩,⟨5,0,1,75,(Oa v)⟩,⟨5,0,2,73,(Hk v)⟩,⟨5,0,2,76,(Oa v)⟩,⟨5,0,3,74,(Hk v)⟩,⟨5,0,3,77,(Oa v)⟩,⟨5,1,0,78,(Hj v)⟩,⟨5,1,0,81,(N9 v)⟩,⟨5,1,2,79,(Hj v)⟩,⟨5,1,2,82,(N9 v)⟩,⟨5,1,3,80,(Hj v)⟩,⟨5,1,3,83,(N9 v)⟩,⟨5,2,0,84,(Hi v)⟩,⟨5,2,0,87,(N8 v)⟩,⟨5,2,1,85,(Hi v)⟩,⟨5,2,1,88,(N8 v)⟩,⟨5,2,3,86,(Hi v)⟩,⟨5,2,3,89,(N8 v)⟩,⟨5,3,0,90,(Hh v)⟩,⟨5,3,0,93,(N7 v)⟩,⟨5,3,1,91,(Hh v)⟩,⟨5,3,1,94,(N7 v)⟩,⟨5,3,2,92,(Hh v)⟩,⟨5,3,2,95,(N7 v)⟩],96,[],[]⟩,[[aB],[aB],[aB],[aB]]⟩
def TB(v:C):aI:=⟨5,[⟨0,false,aB,[⟨(AO v),⟨0,1,6,aB,3,⟨1,v⟩,⟨0,aq⟩,⟨0,aq⟩,⟨0,aq⟩,1,1,v,[(LL v),(LJ v),(LI v)]⟩,⟨1,(-1)⟩,2,5,true,v⟩]⟩,⟨1,false,aB,[⟨(AN v),⟨1,1,6,aB,3,⟨1,v⟩,⟨0,aq⟩,⟨0,aq⟩,⟨0,aq⟩,1,1,v,[(LM v),(LJ v),(LI v)]⟩,⟨1,(-1)⟩,2,5,true,v⟩]⟩,⟨2,false,aB,[⟨(AM v),⟨2,1,6,aB,3,⟨1,v⟩,⟨0,aq⟩,⟨0,aq⟩,⟨0,aq⟩,1,1,v,[(LM v),(LL v),(LI v)]⟩,⟨1,(-1)⟩,2,5,true,v⟩]⟩,⟨3,false,aB,[⟨(AL v),⟨3,1,6,aB,3,⟨1,v⟩,⟨0,aq⟩,⟨0,aq⟩,⟨0,aq⟩,1,1,v,[(LM v),(LL v),(LJ v)]⟩,⟨1,(-1)⟩,2,5,true,v⟩]⟩],0,⟨[⟨6,0,1,96,(jc v)⟩,⟨6,0,2,97,(jc v)⟩,⟨6,0,3,98,(jc v)⟩,⟨6,1,0,99,(jb v)⟩,⟨6,1,2,100,(jb v)⟩,⟨6,1,3,101,(jb v)⟩,⟨6,2,0,102,(ja v)⟩,⟨6,2,1,103,(ja v)⟩,⟨6,2,3,104,(ja v)⟩,⟨6,3,0,105,(iZ v)⟩,⟨6,3,1,106,(iZ v)⟩,⟨6,3,2,107,(iZ v)⟩],108,[],[]⟩,[[aB],[aB],[aB],[aB]]⟩
def TA(v:C):aI:=⟨6,[⟨0,false,aB,[⟨(AO v),⟨0,1,6,aB,3,⟨1,v⟩,⟨0,aq⟩,⟨0,aq⟩,⟨0,aq⟩,1,1,v,[(kg v),(ke v),(kc v)]⟩,⟨1,(-1)⟩,2,5,true,v⟩]⟩,⟨1,false,aB,[⟨(AN v),⟨1,1,6,aB,3,⟨1,v⟩,⟨0,aq⟩,⟨0,aq⟩,⟨0,aq⟩,1,1,v,[(kh v),(ke v),(kc v)]⟩,⟨1,(-1)⟩,2,5,true,v⟩]⟩,⟨2,false,aB,[⟨(AM v),⟨2,1,6,aB,3,⟨1,v⟩,⟨0,aq⟩,⟨0,aq⟩,⟨0,aq⟩,1,1,v,[(kh v),(kg v),(kc v)]⟩,⟨1,(-1)⟩,2,5,true,v⟩]⟩,⟨3,false,aB,[⟨(AL v),⟨3,1,6,aB,3,⟨1,v⟩,⟨0,aq⟩,⟨0,aq⟩,⟨0,aq⟩,1,1,v,[(kh v),(kg v),(ke v)]⟩,⟨1,(-1)⟩,2,5,true,v⟩]⟩],0,⟨[⟨7,0,1,108,(jc v)⟩,⟨7,0,2,109,(jc v)⟩,⟨7,0,3,110,(jc v)⟩,⟨7,1,0,111,(jb v)⟩,⟨7,1,2,112,(jb v)⟩,⟨7,1,3,113,(jb v)⟩,⟨7,2,0,114,(ja v)⟩,⟨7,2,1,115,(ja v)⟩,⟨7,2,3,116,(ja v)⟩,⟨7,3,0,117,(iZ v)⟩,⟨7,3,1,118,(iZ v)⟩,⟨7,3,2,119,(iZ v)⟩],120,[],[]⟩,[[aB],[aB],[aB],[aB]]⟩
def Tz(v:C):aI:=⟨7,[⟨0,false,aB,[⟨(AO v),⟨0,1,6,aB,3,⟨1,v⟩,⟨0,aq⟩,⟨0,aq⟩,⟨0,aq⟩,1,1,v,[(kg v),(ke v),(kc v)]⟩,⟨1,(-1)⟩,2,5,true,v⟩]⟩,⟨1,false,aB,[⟨(AN v),⟨1,1,6,aB,3,⟨1,v⟩,⟨0,aq⟩,⟨0,aq⟩,⟨0,aq⟩,1,1,v,[(kh v),(ke v),(kc v)]⟩,⟨1,(-1)⟩,2,5,true,v⟩]⟩,⟨2,false,aB,[⟨(AM v),⟨2,1,6,aB,3,⟨1,v⟩,⟨0,aq⟩,⟨0,aq⟩,⟨0,aq⟩,1,1,v,[(kh v),(kg v),(kc v)]⟩,⟨1,(-1)⟩,2,5,true,v⟩]⟩,⟨3,false,aB,[⟨(AL v),⟨3,1,6,aB,3,⟨1,v⟩,⟨0,aq⟩,⟨0,aq⟩,⟨0,aq⟩,1,1,v,[(kh v),(kg v),(ke v)]⟩,⟨1,(-1)⟩,2,5,true,v⟩]⟩],0,⟨[⟨8,0,1,120,(jc v)⟩,⟨8,0,2,121,(jc v)⟩,⟨8,0,3,122,(jc v)⟩,⟨8,1,0,123,(jb v)⟩,⟨8,1,2,124,(jb v)⟩,⟨8,1,3,125,(jb v)⟩,⟨8,2,0,126,(ja v)⟩,⟨8,2,1,127,(ja v)⟩,⟨8,2,3,128,(ja v)⟩,⟨8,3,0,129,(iZ v)⟩,⟨8,3,1,130,(iZ v)⟩,⟨8,3,2,131,(iZ v)⟩],132,[],[]⟩,[[aB],[aB],[aB],[aB]]⟩
def Tx(v:C):aI:=⟨8,[⟨0,false,aB,[⟨(AO v),⟨0,1,6,aB,3,⟨1,v⟩,⟨0,aq⟩,⟨0,aq⟩,⟨0,aq⟩,1,1,v,[(kg v),(ke v),(kc v)]⟩,⟨1,(-1)⟩,2,5,true,v⟩]⟩,⟨1,false,aB,[⟨(AN v),⟨1,1,6,aB,3,⟨1,v⟩,⟨0,aq⟩,⟨0,aq⟩,⟨0,aq⟩,1,1,v,[(kh v),(ke v),(kc v)]⟩,⟨1,(-1)⟩,2,5,true,v⟩]⟩,⟨2,false,aB,[⟨(AM v),⟨2,1,6,aB,3,⟨1,v⟩,⟨0,aq⟩,⟨0,aq⟩,⟨0,aq⟩,1,1,v,[(kh v),(kg v),(kc v)]⟩,⟨1,(-1)⟩,2,5,true,v⟩]⟩,⟨3,false,aB,[⟨(AL v),⟨3,1,6,aB,3,⟨1,v⟩,⟨0,aq⟩,⟨0,aq⟩,⟨0,aq⟩,1,1,v,[(kh v),(kg v),(ke v)]⟩,⟨1,(-1)⟩,2,5,true,v⟩]⟩],0,⟨[⟨9,0,1,132,(jc v)⟩,⟨9,0,2,133,(jc v)⟩,⟨9,0,3,134,(jc v)⟩,⟨9,1,0,135,(jb v)⟩,⟨9,1,2,136,(jb v)⟩,⟨9,1,3,137,(jb v)⟩,⟨9,2,0,138,(ja v)⟩,⟨9,2,1,139,(ja v)⟩,⟨9,2,3,140,(ja v)⟩,⟨9,3,0,141,(iZ v)⟩,⟨9,3,1,142,(iZ v)⟩,⟨9,3,2,143,(iZ v)⟩],144,[],[]⟩,[[aB],[aB],[aB],[aB]]⟩
def Tw(v:C):aI:=⟨9,[⟨0,false,aB,[⟨(AO v),⟨0,1,6,aB,3,⟨1,v⟩,⟨0,aq⟩,⟨0,aq⟩,⟨0,aq⟩,1,1,v,[(kg v),(ke v),(kc v)]⟩,⟨1,(-1)⟩,2,5,true,v⟩]⟩,⟨1,false,aB,[⟨(AN v),⟨1,1,6,aB,3,⟨1,v⟩,⟨0,aq⟩,⟨0,aq⟩,⟨0,aq⟩,1,1,v,[(kh v),(ke v),(kc v)]⟩,⟨1,(-1)⟩,2,5,true,v⟩]⟩,⟨2,false,aB,[⟨(AM v),⟨2,1,6,aB,3,⟨1,v⟩,⟨0,aq⟩,⟨0,aq⟩,⟨0,aq⟩,1,1,v,[(kh v),(kg v),(kc v)]⟩,⟨1,(-1)⟩,2,5,true,v⟩]⟩,⟨3,false,aB,[⟨(AL v),⟨3,1,6,aB,3,⟨1,v⟩,⟨0,aq⟩,⟨0,aq⟩,⟨0,aq⟩,1,1,v,[(kh v),(kg v),(ke v)]⟩,⟨1,(-1)⟩,2,5,true,v⟩]⟩],0,⟨[⟨10,0,1,144,(jc v)⟩,⟨10,0,2,145,(jc v)⟩,⟨10,0,3,146,(jc v)⟩,⟨10,1,0,147,(jb v)⟩,⟨10,1,2,148,(jb v)⟩,⟨10,1,3,149,(jb v)⟩,⟨10,2,0,150,(ja v)⟩,⟨10,2,1,151,(ja v)⟩,⟨10,2,3,152,(ja v)⟩,⟨10,3,0,153,(iZ v)⟩,⟨10,3,1,154,(iZ v)⟩,⟨10,3,2,155,(iZ v)⟩],156,[],[]⟩,[[aB],[aB],[aB],[aB]]⟩
def PX(v:C):aI:=⟨10,[⟨0,false,aB,[⟨(AO v),⟨0,1,6,aB,3,⟨1,v⟩,⟨0,aq⟩,⟨0,aq⟩,⟨0,aq⟩,1,1,v,[(kg v),(ke v),(kc v)]⟩,⟨1,(-1)⟩,2,5,true,v⟩]⟩,⟨1,false,aB,[⟨(AN v),⟨1,1,6,aB,3,⟨1,v⟩,⟨0,aq⟩,⟨0,aq⟩,⟨0,aq⟩,1,1,v,[(kh v),(ke v),(kc v)]⟩,⟨1,(-1)⟩,2,5,true,v⟩]⟩,⟨2,false,aB,[⟨(AM v),⟨2,1,6,aB,3,⟨1,v⟩,⟨0,aq⟩,⟨0,aq⟩,⟨0,aq⟩,1,1,v,[(kh v),(kg v),(kc v)]⟩,⟨1,(-1)⟩,2,5,true,v⟩]⟩,⟨3,false,aB,[⟨(AL v),⟨3,1,6,aB,3,⟨1,v⟩,⟨0,aq⟩,⟨0,aq⟩,⟨0,aq⟩,1,1,v,[(kh v),(kg v),(ke v)]⟩,⟨1,(-1)⟩,2,5,true,v⟩]⟩],0,⟨[⟨11,0,1,156,(jc v)⟩,⟨11,0,2,157,(jc v)⟩,⟨11,0,3,158,(jc v)⟩,⟨11,1,0,159,(jb v)⟩,⟨11,1,2,160,(jb v)⟩,⟨11,1,3,161,(jb v)⟩,⟨11,2,0,162,(ja v)⟩,⟨11,2,1,163,(ja v)⟩,⟨11,2,3,164,(ja v)⟩,⟨11,3,0,165,(iZ v)⟩,⟨11,3,1,166,(iZ v)⟩,⟨11,3,2,167,(iZ v)⟩],168,[],[]⟩,[[aB],[aB],[aB],[aB]]⟩
def PW(v:C):aI:=⟨11,[⟨0,false,aB,[⟨(AO v),⟨0,1,6,aB,3,⟨1,v⟩,⟨0,aq⟩,⟨0,aq⟩,⟨0,aq⟩,1,1,v,[(kg v),(ke v),(kc v)]⟩,⟨1,(-1)⟩,2,5,true,v⟩]⟩,⟨1,false,aB,[⟨(AN v),⟨1,1,6,aB,3,⟨1,v⟩,⟨0,aq⟩,⟨0,aq⟩,⟨0,aq⟩,1,1,v,[(kh v),(ke v),(kc v)]⟩,⟨1,(-1)⟩,2,5,true,v⟩]⟩,⟨2,false,aB,[⟨(AM v),⟨2,1,6,aB,3,⟨1,v⟩,⟨0,aq⟩,⟨0,aq⟩,⟨0,aq⟩,1,1,v,[(kh v),(kg v),(kc v)]⟩,⟨1,(-1)⟩,2,5,true,v⟩]⟩,⟨3,false,aB,[⟨(AL v),⟨3,1,6,aB,3,⟨1,v⟩,⟨0,aq⟩,⟨0,aq⟩,⟨0,aq⟩,1,1,v,[(kh v),(kg v),(ke v)]⟩,⟨1,(-1)⟩,2,5,true,v⟩]⟩],0,⟨[⟨12,0,1,168,(jc v)⟩,⟨12,0,2,169,(jc v)⟩,⟨12,0,3,170,(jc v)⟩,⟨12,1,0,171,(jb v)⟩,⟨12,1,2,172,(jb v)⟩,⟨12,1,3,173,(jb v)⟩,⟨12,2,0,174,(ja v)⟩,⟨12,2,1,175,(ja v)⟩,⟨12,2,3,176,(ja v)⟩,⟨12,3,0,177,(iZ v)⟩,⟨12,3,1,178,(iZ v)⟩,⟨12,3,2,179,(iZ v)⟩],180,[],[]⟩,[[aB],[aB],[aB],[aB]]⟩
def DE(v:C):aI:=⟨12,[⟨0,false,aB,[⟨(AO v),⟨0,1,6,aB,3,⟨1,v⟩,⟨0,aq⟩,⟨0,aq⟩,⟨0,aq⟩,1,1,v,[(kg v),(ke v),(kc v)]⟩,⟨1,(-1)⟩,2,5,true,v⟩]⟩,⟨1,false,aB,[⟨(AN v),⟨1,1,6,aB,3,⟨1,v⟩,⟨0,aq⟩,⟨0,aq⟩,⟨0,aq⟩,1,1,v,[(kh v),(ke v),(kc v)]⟩,⟨1,(-1)⟩,2,5,true,v⟩]⟩,⟨2,false,aB,[⟨(AM v),⟨2,1,6,aB,3,⟨1,v⟩,⟨0,aq⟩,⟨0,aq⟩,⟨0,aq⟩,1,1,v,[(kh v),(kg v),(kc v)]⟩,⟨1,(-1)⟩,2,5,true,v⟩]⟩,⟨3,false,aB,[⟨(AL v),⟨3,1,6,aB,3,⟨1,v⟩,⟨0,aq⟩,⟨0,aq⟩,⟨0,aq⟩,1,1,v,[(kh v),(kg v),(ke v)]⟩,⟨1,(-1)⟩,2,5,true,v⟩]⟩],0,⟨[⟨13,0,1,180,(jc v)⟩,⟨13,0,2,181,(jc v)⟩,⟨13,0,3,182,(jc v)⟩,⟨13,1,0,183,(jb v)⟩,⟨13,1,2,184,(jb v)⟩,⟨13,1,3,185,(jb v)⟩,⟨13,2,0,186,(ja v)⟩,⟨13,2,1,187,(ja v)⟩,⟨13,2,3,188,(ja v)⟩,⟨13,3,0,189,(iZ v)⟩,⟨13,3,1,190,(iZ v)⟩,⟨13,3,2,191,(iZ v)⟩],192,[],[]⟩,[[aB],[aB],[aB],[aB]]⟩
end
section
def WZ{v:C}(h:dz v):au dt (bH 0 (O6 v))=some (.inl (bH 1 (Uc v))):=by rcases h with rfl|rfl|rfl|rfl<;>kernel_rfl
def WY{v:C}(h:dz v):au dt (bH 1 (Uc v))=some (.inl (bH 2 (Ub v))):=by rcases h with rfl|rfl|rfl|rfl<;>kernel_rfl
def WX{v:C}(h:dz v):au dt (bH 2 (Ub v))=some (.inl (bH 3 (Ua v))):=by rcases h with rfl|rfl|rfl|rfl<;>kernel_rfl
def WW{v:C}(h:dz v):au dt (bH 3 (Ua v))=some (.inl (bH 4 (T9 v))):=by rcases h with rfl|rfl|rfl|rfl<;>kernel_rfl
def WV{v:C}(h:dz v):au dt (bH 4 (T9 v))=some (.inl (bH 5 (T8 v))):=by rcases h with rfl|rfl|rfl|rfl<;>kernel_rfl
def WU{v:C}(h:dz v):au dt (bH 5 (T8 v))=some (.inl (bH 6 (T7 v))):=by rcases h with rfl|rfl|rfl|rfl<;>kernel_rfl
def WT{v:C}(h:dz v):au dt (bH 6 (T7 v))=some (.inl (bH 7 (T6 v))):=by rcases h with rfl|rfl|rfl|rfl<;>kernel_rfl
def WR{v:C}(h:dz v):au dt (bH 7 (T6 v))=some (.inl (bH 8 (T5 v))):=by rcases h with rfl|rfl|rfl|rfl<;>kernel_rfl
def WQ{v:C}(h:dz v):au dt (bH 8 (T5 v))=some (.inl (bH 9 (T4 v))):=by rcases h with rfl|rfl|rfl|rfl<;>kernel_rfl
def WO{v:C}(h:dz v):au dt (bH 9 (T4 v))=some (.inl (bH 10 (P3 v))):=by rcases h with rfl|rfl|rfl|rfl<;>kernel_rfl
def UH{v:C}(h:dz v):au dt (bH 10 (P3 v))=some (.inl (bH 11 (P2 v))):=by rcases h with rfl|rfl|rfl|rfl<;>kernel_rfl
def UG{v:C}(h:dz v):au dt (bH 11 (P2 v))=some (.inl (bH 12 (G4 v))):=by rcases h with rfl|rfl|rfl|rfl<;>kernel_rfl
def Sc{v:C}(h:dz v):aE (au dt) (bH 0 (O6 v))=some (G4 v,0,()):=(bb (WZ h)).trans ((bb (WY h)).trans ((bb (WX h)).trans ((bb (WW h)).trans ((bb (WV h)).trans ((bb (WU h)).trans ((bb (WT h)).trans ((bb (WR h)).trans ((bb (WQ h)).trans ((bb (WO h)).trans ((bb (UH h)).trans ((bb (UG h)).trans (qS (s:=bH 12 (G4 v)) (by rcases h with rfl|rfl|rfl|rfl<;>kernel_rfl)))))))))))))
def WN{v:C}(h:dz v):au dt (bH 0 (O5 v))=some (.inl (bH 1 (T1 v))):=by rcases h with rfl|rfl|rfl|rfl<;>kernel_rfl
def WM{v:C}(h:dz v):au dt (bH 1 (T1 v))=some (.inl (bH 2 (T0 v))):=by rcases h with rfl|rfl|rfl|rfl<;>kernel_rfl
def WL{v:C}(h:dz v):au dt (bH 2 (T0 v))=some (.inl (bH 3 (TZ v))):=by rcases h with rfl|rfl|rfl|rfl<;>kernel_rfl
def WK{v:C}(h:dz v):au dt (bH 3 (TZ v))=some (.inl (bH 4 (TY v))):=by rcases h with rfl|rfl|rfl|rfl<;>kernel_rfl
def WJ{v:C}(h:dz v):au dt (bH 4 (TY v))=some (.inl (bH 5 (TX v))):=by rcases h with rfl|rfl|rfl|rfl<;>kernel_rfl
def WI{v:C}(h:dz v):au dt (bH 5 (TX v))=some (.inl (bH 6 (TW v))):=by rcases h with rfl|rfl|rfl|rfl<;>kernel_rfl
def WH{v:C}(h:dz v):au dt (bH 6 (TW v))=some (.inl (bH 7 (TV v))):=by rcases h with rfl|rfl|rfl|rfl<;>kernel_rfl
def WG{v:C}(h:dz v):au dt (bH 7 (TV v))=some (.inl (bH 8 (TT v))):=by rcases h with rfl|rfl|rfl|rfl<;>kernel_rfl
def WE{v:C}(h:dz v):au dt (bH 8 (TT v))=some (.inl (bH 9 (TS v))):=by rcases h with rfl|rfl|rfl|rfl<;>kernel_rfl
def WD{v:C}(h:dz v):au dt (bH 9 (TS v))=some (.inl (bH 10 (P1 v))):=by rcases h with rfl|rfl|rfl|rfl<;>kernel_rfl
def UF{v:C}(h:dz v):au dt (bH 10 (P1 v))=some (.inl (bH 11 (P0 v))):=by rcases h with rfl|rfl|rfl|rfl<;>kernel_rfl
def UE{v:C}(h:dz v):au dt (bH 11 (P0 v))=some (.inl (bH 12 (G3 v))):=by rcases h with rfl|rfl|rfl|rfl<;>kernel_rfl
def Sb{v:C}(h:dz v):aE (au dt) (bH 0 (O5 v))=some (G3 v,0,()):=(bb (WN h)).trans ((bb (WM h)).trans ((bb (WL h)).trans ((bb (WK h)).trans ((bb (WJ h)).trans ((bb (WI h)).trans ((bb (WH h)).trans ((bb (WG h)).trans ((bb (WE h)).trans ((bb (WD h)).trans ((bb (UF h)).trans ((bb (UE h)).trans (qS (s:=bH 12 (G3 v)) (by rcases h with rfl|rfl|rfl|rfl<;>kernel_rfl)))))))))))))
end
section
def WC{v:C}(h:dz v):au dt (bH 0 (O4 v))=some (.inl (bH 1 (TR v))):=by rcases h with rfl|rfl|rfl|rfl<;>kernel_rfl
def WB{v:C}(h:dz v):au dt (bH 1 (TR v))=some (.inl (bH 2 (TP v))):=by rcases h with rfl|rfl|rfl|rfl<;>kernel_rfl
def WA{v:C}(h:dz v):au dt (bH 2 (TP v))=some (.inl (bH 3 (TO v))):=by rcases h with rfl|rfl|rfl|rfl<;>kernel_rfl
def Wz{v:C}(h:dz v):au dt (bH 3 (TO v))=some (.inl (bH 4 (TN v))):=by rcases h with rfl|rfl|rfl|rfl<;>kernel_rfl
def Wy{v:C}(h:dz v):au dt (bH 4 (TN v))=some (.inl (bH 5 (TM v))):=by rcases h with rfl|rfl|rfl|rfl<;>kernel_rfl
def Wx{v:C}(h:dz v):au dt (bH 5 (TM v))=some (.inl (bH 6 (TL v))):=by rcases h with rfl|rfl|rfl|rfl<;>kernel_rfl
def Ww{v:C}(h:dz v):au dt (bH 6 (TL v))=some (.inl (bH 7 (TJ v))):=by rcases h with rfl|rfl|rfl|rfl<;>kernel_rfl
def Wv{v:C}(h:dz v):au dt (bH 7 (TJ v))=some (.inl (bH 8 (TH v))):=by rcases h with rfl|rfl|rfl|rfl<;>kernel_rfl
def Wu{v:C}(h:dz v):au dt (bH 8 (TH v))=some (.inl (bH 9 (TG v))):=by rcases h with rfl|rfl|rfl|rfl<;>kernel_rfl
def Wt{v:C}(h:dz v):au dt (bH 9 (TG v))=some (.inl (bH 10 (PZ v))):=by rcases h with rfl|rfl|rfl|rfl<;>kernel_rfl
def UD{v:C}(h:dz v):au dt (bH 10 (PZ v))=some (.inl (bH 11 (PY v))):=by rcases h with rfl|rfl|rfl|rfl<;>kernel_rfl
def UC{v:C}(h:dz v):au dt (bH 11 (PY v))=some (.inl (bH 12 (G2 v))):=by rcases h with rfl|rfl|rfl|rfl<;>kernel_rfl
def Sa{v:C}(h:dz v):aE (au dt) (bH 0 (O4 v))=some (G2 v,0,()):=(bb (WC h)).trans ((bb (WB h)).trans ((bb (WA h)).trans ((bb (Wz h)).trans ((bb (Wy h)).trans ((bb (Wx h)).trans ((bb (Ww h)).trans ((bb (Wv h)).trans ((bb (Wu h)).trans ((bb (Wt h)).trans ((bb (UD h)).trans ((bb (UC h)).trans (qS (s:=bH 12 (G2 v)) (by rcases h with rfl|rfl|rfl|rfl<;>kernel_rfl)))))))))))))
end
section
def Ws{v:C}(h:dz v):au dt (bH 0 (O3 v))=some (.inl (bH 1 (TF v))):=by rcases h with rfl|rfl|rfl|rfl<;>kernel_rfl
def Wr{v:C}(h:dz v):au dt (bH 1 (TF v))=some (.inl (bH 2 (TE v))):=by rcases h with rfl|rfl|rfl|rfl<;>kernel_rfl
def Wq{v:C}(h:dz v):au dt (bH 2 (TE v))=some (.inl (bH 3 (TD v))):=by rcases h with rfl|rfl|rfl|rfl<;>kernel_rfl
end
section
def Wp{v:C}(h:dz v):au dt (bH 3 (TD v))=some (.inl (bH 4 (TC v))):=by rcases h with rfl|rfl|rfl|rfl<;>kernel_rfl
def Wn{v:C}(h:dz v):au dt (bH 4 (TC v))=some (.inl (bH 5 (TB v))):=by rcases h with rfl|rfl|rfl|rfl<;>kernel_rfl
end
section
def Wm{v:C}(h:dz v):au dt (bH 5 (TB v))=some (.inl (bH 6 (TA v))):=by rcases h with rfl|rfl|rfl|rfl<;>kernel_rfl
def Wl{v:C}(h:dz v):au dt (bH 6 (TA v))=some (.inl (bH 7 (Tz v))):=by rcases h with rfl|rfl|rfl|rfl<;>kernel_rfl
def Wk{v:C}(h:dz v):au dt (bH 7 (Tz v))=some (.inl (bH 8 (Tx v))):=by rcases h with rfl|rfl|rfl|rfl<;>kernel_rfl
end
section
def Wj{v:C}(h:dz v):au dt (bH 8 (Tx v))=some (.inl (bH 9 (Tw v))):=by rcases h with rfl|rfl|rfl|rfl<;>kernel_rfl
def Wi{v:C}(h:dz v):au dt (bH 9 (Tw v))=some (.inl (bH 10 (PX v))):=by rcases h with rfl|rfl|rfl|rfl<;>kernel_rfl
def UB{v:C}(h:dz v):au dt (bH 10 (PX v))=some (.inl (bH 11 (PW v))):=by rcases h with rfl|rfl|rfl|rfl<;>kernel_rfl
def UA{v:C}(h:dz v):au dt (bH 11 (PW v))=some (.inl (bH 12 (DE v))):=by rcases h with rfl|rfl|rfl|rfl<;>kernel_rfl
end
section
def R9{v:C}(h:dz v):aE (au dt) (bH 0 (O3 v))=some (DE v,0,()):=
 (bb (Ws h)).trans<|(bb (Wr h)).trans<|(bb (Wq h)).trans<|(bb (Wp h)).trans<|(bb (Wn h)).trans<|(bb (Wm h)).trans<|(bb (Wl h)).trans<|(bb (Wk h)).trans<|(bb (Wj h)).trans<|(bb (Wi h)).trans<|(bb (UB h)).trans<|(bb (UA h)).trans<|qS (s:=bH 12 (DE v)) (by rcases h with rfl|rfl|rfl|rfl<;>kernel_rfl)
def yG{w w':aI}(d:mL w=some true)(p:fL w.aY=some w.aY)(n:dp w.Net.cO=some w.Net.cO)(m:bz w.Net.gk=some w.Net.gk)(l:bz w.Net.gI=some w.Net.gI)(j:iz w.fg=some w.fg)
  (b:aE (au dt) (bH 0 w)=some (w',0,())):kF w dt=some (w',0,()):=by
 have e:iF w dt=aE (au dt) (bH 0 w):=by
  unfold iF oO aO;rw[d,QK,qaH,QO,p,QK,n,QK,m,QK,l,QK,j,QK]
  kernel_rfl
 unfold kF;exact QJ (λo=>Option.bind o λa=>some (a.1,a.2.1,())) (e.trans b)
def yB{a ρ:Type}(step:a->Y (a⊕ρ)):Nat->a->Y a
 |0,s=>some s
 |n+1,s=>match step s with
  |some (.inl s')=>yB step n s'
  |_=>none
def Fe{a ρ:Type}{step:a->Y (a⊕ρ)}:∀{n:Nat} {s s':a},yB step n s=some s'->aE step s=aE step s'
 |0,s,s',h=>by injection h with h;rw[h]
 |n+1,s,s',h=>by
  simp only[yB]at h;split at h
  .rename_i d b;exact(bb b).trans (Fe h)
  .cases h
def Yd.iter{a ρ:Type}{step:a->Y (a⊕ρ)}{n:Nat}{s s':a}{p:ρ->Prop}(h:yB step n s=Option.some s')(k:Yd (aE step s') p):Yd (aE step s) p:=by rw[Fe h];exact k
def Yd.ui{a ρ:Type}{step:a->Y (a⊕ρ)}{s:a}{o:Y ρ}{p:ρ->Prop}(h:step s=Option.map inr o)(k:Yd o p):Yd (aE step s) p:=by obtain⟨r,rfl,b⟩:=k;exact⟨r,qS h,b⟩
def PU(T:ar):Z Int->aI
 |l=>⟨0,l.map λi=>⟨i,false,T,[]⟩,0,⟨[],0,[],[]⟩,l.map λ_=>[T]⟩
def Tv:aI:=⟨0,[],0,⟨[],0,[],[]⟩,[]⟩
def FP{c:bq}{l:Z eF}{n:Nat}{w w1 w2:aI}(d:tY c 0=some (w,0,()))(m:l.length=n+1)(j:(n:Int)+1<=300)(hi:yB (o1 l) n (0,Tv,w,())=some ((n:Int),Tv,w1,()))(b:idx l (n:Int)=some dt)(p:kF w1 dt=some (w2,0,())):ed c 0 l=some (w2,(n:Int)+1,0,()):=by
 have q:aC .i64 (n:Int) 1=(n:Int)+1:=Bv O O;have a:((List.length l:Nat):Int)=(n:Int)+1:=by rw[m];omega
 unfold ed;rw[d,QK,a];rw[show(!decide ((0:Int)=0))=false from rfl,QO,qai O,QO]
 refine(Fe hi).trans ((bb (s':=((n:Int)+1,Tv,w2,())) ?_).trans (qS ?_))
 .unfold o1;simp only[a];rw[qah O,qap,b,QK];refine(QJ (λo=>Option.bind o _) (show kF w1 _=some (w2,0,())from p)).trans ?_
  rw[QK,q];rfl
 .unfold o1;simp only[a];rw[qai O];rfl
def Xb{v:C}(h:dz v):ed (IF fV 1) 0 (BJ v 1++[dt])=some (G4 v,2,0,()):=
 FP (n:=1) (w:=PU fV [0]) (w1:=O6 v) d_ rfl O (by rcases h with rfl|rfl|rfl|rfl<;>kernel_rfl) d_ (by refine yG ?_ ?_ ?_ ?_ ?_ ?_ (Sc h)<;>(rcases h with rfl|rfl|rfl|rfl<;>kernel_rfl))
def Xa{v:C}(h:dz v):ed (IF bg 2) 0 (BJ v 2++[dt])=some (G3 v,3,0,()):=
 FP (n:=2) (w:=PU bg [0,1]) (w1:=O5 v) d_ rfl O (by rcases h with rfl|rfl|rfl|rfl<;>kernel_rfl) d_ (by refine yG ?_ ?_ ?_ ?_ ?_ ?_ (Sb h)<;>(rcases h with rfl|rfl|rfl|rfl<;>kernel_rfl))
def W9{v:C}(h:dz v):ed (IF aS 3) 0 (BJ v 3++[dt])=some (G2 v,4,0,()):=
 FP (n:=3) (w:=PU aS [0,1,2]) (w1:=O4 v) d_ rfl O (by rcases h with rfl|rfl|rfl|rfl<;>kernel_rfl) d_ (by refine yG ?_ ?_ ?_ ?_ ?_ ?_ (Sa h)<;>(rcases h with rfl|rfl|rfl|rfl<;>kernel_rfl))
def Sg{v:C}(h:dz v):ed (IF aB 4) 0 (BJ v 4++[dt])=some (DE v,5,0,()):=
 FP (n:=4) (w:=PU aB [0,1,2,3]) (w1:=O3 v) d_ rfl O (by rcases h with rfl|rfl|rfl|rfl<;>kernel_rfl) d_ (by refine yG ?_ ?_ ?_ ?_ ?_ ?_ (R9 h)<;>(rcases h with rfl|rfl|rfl|rfl<;>kernel_rfl))
def yJ(v:C)(l:Z Int):Z fW:=l.map λi=>⟨i,1,v⟩
def UL{v:C}(h:dz v):dx (G4 v)=some (yJ v [0]):=by rcases h with rfl|rfl|rfl|rfl<;>kernel_rfl
def UK{v:C}(h:dz v):dx (G3 v)=some (yJ v [0,1]):=by rcases h with rfl|rfl|rfl|rfl<;>kernel_rfl
def UJ{v:C}(h:dz v):dx (G2 v)=some (yJ v [0,1,2]):=by rcases h with rfl|rfl|rfl|rfl<;>kernel_rfl
def Px{v:C}(h:dz v):dx (DE v)=some (yJ v [0,1,2,3]):=by rcases h with rfl|rfl|rfl|rfl<;>kernel_rfl
end
section
def Yd.GO{α:Type}{b:Bool}{x y:Y α}{p:α->Prop}(h:b=true)(k:Yd x p):Yd (bif b then x else y) p:=by rw[h];exact k
def RB:xW=some (IF aB 4):=(EJ _).trans d_
def Rf{v:C}(p:Y Bool)(n:Nat)(l:Z Int)(m:l.length=n)(q:n<=4){step:Int×Unit->Y ((Int×Unit)⊕Bool)}
  (d:∀s,step s=bif decide (s.1<(((yJ v l).length:Nat):Int))then Option.bind (idx (yJ v l) s.1) λx=>bif (!decide (x.Value=v))then Option.map inr (some false)else some (inl (aC .i64 s.1 1,()))else Option.map inr p) (k:Yd p (·=true)):Yd (aE step (0,())) (·=true):=by
 have a:(((yJ v l).length:Nat):Int)=n:=by simp[yJ,m]
 refine Yd.iter (n:=n) (s':=((n:Int),())) ?_ (Yd.ui (o:=p) ?_ k)
 .have:∀i,i<=n->yB step i ((n:Int) - i,())=some ((n:Int),()):=by
   intro i
   induction i with
   |zero=>intro _;simp[yB]
   |succ i j=>
    intro hi;rw[yB,d,a];simp only;rw[qah O,qap,JK _ O];have b:((n:Int) - (i+1:Nat)).toNat<l.length:=O;rw[show(yJ v l)[((n:Int) - (i+1:Nat)).toNat]?=some ⟨l[((n:Int) - (i+1:Nat)).toNat],1,v⟩by rw[yJ,Qt,Qv b];rfl,QK]
    simp only[decide_true,qaH,QO];rw[show aC .i64 ((n:Int) - (i+1:Nat)) 1=(n:Int) - i by rw[Bv O O];omega]
    exact j O
  have:=this n (Ql _)
  rwa [Int.sub_self]at this
 .rw[d,a];simp only;rw[qai O,QO]
def P8:oI=some true:=by refine Yd.eq_true ?_;unfold oI;rw[EJ];unfold Di oO;refine Yd.iter (n:=4) (s':=(4,BJ ⟨#[97]⟩ 4,())) d_ ?_;refine Yd.ui (QO _ _) ?_;refine Yd.bind (p:=(·=IF aB 4)) (Yd.of_eq RB rfl) ?_;rintro _ rfl;refine Yd.GO d_ ?_;refine Yd.bind (p:=(·=(DE ⟨#[97]⟩,5,0,()))) (Yd.of_eq (Sg (.inl rfl)) rfl) ?_;rintro _ rfl;refine Yd.bind (p:=(·=yJ ⟨#[97]⟩ [0,1,2,3])) (Yd.of_eq (Px (.inl rfl)) rfl) ?_;rintro _ rfl;exact Yd.of_eq d_ rfl
def G0{v:C}{p:Y Bool}{n:Int}{k:Nat}(u:(k:Int)=n)(t:k<=4){W:aI}{T:ar}{l:Z Int}(j:l.length=k)
  (o:ed (IF T k) 0 (BJ v k++[dt])=some (W,n+1,0,())) (q:dx W=some (yJ v l)) (hp:Yd p (·=true))
  {step:Z fW->Int×Unit->Y ((Int×Unit)⊕Bool)}
  (m:∀r s,step r s=bif decide (s.1<(r.length:Int))then Option.bind (idx r s.1) λx=>bif (!decide (x.Value=v))then Option.map inr (some false)else some (inl (aC .i64 s.1 1,()))else Option.map inr p):
  Yd (Option.bind (ed (IF T k) 0 (BJ v k++[dt])) λd=>Option.bind (dx d.1) λb=>
   Option.bind (bif (!decide (d.2.2.1=(0:Int)))then some true else some (!decide (((List.length b:Nat):Int)=n))) λw=>
   bif w then some false else aE (step b) (0,())) (·=true):=by
 rw[o,QK,q,QK];have a:(((yJ v l).length:Nat):Int)=n:=by simp[yJ,j,u]
 simp only[a,decide_true,qaH,QO,QK];exact Rf p k l j t (λs=>m _ s) hp
def SO(o:Z Int):mg o=some true:=by
 refine Yd.eq_true ?_;unfold mg oO;refine Yd.bind (Um o) λt r=> ?_
 refine Yd.bind (O9 r O O O) λp hp=> ?_
 obtain⟨n,s⟩:=p;obtain⟨j,g1,m,_⟩:=hp;simp only at j g1 m;have m:=m O;have q:n=1\/n=2\/n=3\/n=4:=O;have a:Yd (Option.bind oI λl=>some l) (·=true):=Yd.of_eq (by rw[P8];rfl) rfl
 have d:∀{v:C},Ud v->dz v:=λh=>by unfold dz;simpa[Ud]using h
 rcases q with rfl|rfl|rfl|rfl
 .refine Yd.iter (n:=1) (s':=((1:Int),bq.mk [],replicate 1 (bW.mk true fV),())) d_ ?_;refine Yd.ui (QO _ _) ?_;refine Yd.bind (Bw j) ?_;rintro⟨v,s'⟩ ⟨_,b⟩;refine Yd.iter (n:=1) (s':=((1:Int),BJ v 1,())) d_ ?_;refine Yd.ui (QO _ _) ?_;refine Yd.GO d_ ?_;exact G0 (k:=1) rfl O rfl (Xb (d b)) (UL (d b)) a λ_ _=>rfl
 .refine Yd.iter (n:=2) (s':=((2:Int),bq.mk [],replicate 2 (bW.mk true bg),())) d_ ?_;refine Yd.ui (QO _ _) ?_;refine Yd.bind (Bw j) ?_;rintro⟨v,s'⟩ ⟨_,b⟩;refine Yd.iter (n:=2) (s':=((2:Int),BJ v 2,())) d_ ?_;refine Yd.ui (QO _ _) ?_;refine Yd.GO d_ ?_;exact G0 (k:=2) rfl O rfl (Xa (d b)) (UK (d b)) a λ_ _=>rfl
 .refine Yd.iter (n:=3) (s':=((3:Int),bq.mk [],replicate 3 (bW.mk true aS),())) d_ ?_;refine Yd.ui (QO _ _) ?_;refine Yd.bind (Bw j) ?_;rintro⟨v,s'⟩ ⟨_,b⟩;refine Yd.iter (n:=3) (s':=((3:Int),BJ v 3,())) d_ ?_;refine Yd.ui (QO _ _) ?_;refine Yd.GO d_ ?_;exact G0 (k:=3) rfl O rfl (W9 (d b)) (UJ (d b)) a λ_ _=>rfl
 .refine Yd.iter (n:=4) (s':=((4:Int),bq.mk [],replicate 4 (bW.mk true aB),())) d_ ?_;refine Yd.ui (QO _ _) ?_;refine Yd.bind (Bw j) ?_;rintro⟨v,s'⟩ ⟨_,b⟩;refine Yd.iter (n:=4) (s':=((4:Int),BJ v 4,())) d_ ?_;refine Yd.ui (QO _ _) ?_;refine Yd.GO d_ ?_;exact G0 (k:=4) rfl O rfl (Sg (d b)) (Px (d b)) a λ_ _=>rfl
end
end Go.Proofs.YtppbofaglpdghaaGreat
end
