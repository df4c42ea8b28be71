/-
  Texts made small by a program (see NOTES). Conditions: those that each theorem names.
-/
import Derived.Test.YtppbofaglpdghaaGreatScenarioAgreeMe
import Derived.Test.YtppbofaglpdghaaGreatScenarioAgreeMf
import Derived.Test.YtppbofaglpdghaaGreatScenarioAgreeMg
import Derived.Test.YtppbofaglpdghaaGreatScenarioAgreeMh
import Derived.Test.YtppbofaglpdghaaGreatScenarioAgreeMi
import Derived.Test.YtppbofaglpdghaaGreatScenarioAgreeMj
import Derived.Test.YtppbofaglpdghaaGreatScenarioAgreeMk
import Derived.Test.YtppbofaglpdghaaGreatScenarioAgreeMl
import Derived.Test.YtppbofaglpdghaaGreatScenarioAgreeMm
import Derived.Test.YtppbofaglpdghaaGreatScenarioAgreeMn
import Derived.Test.YtppbofaglpdghaaGreatScenarioAgreeMo
import Derived.Test.YtppbofaglpdghaaGreatScenarioAgreeMp
import Derived.Test.YtppbofaglpdghaaGreatScenarioAgreeMq
set_option linter.unusedVariables false
set_option linter.defProp false
set_option linter.unusedSimpArgs false
set_option linter.unusedSectionVars false
set_option maxHeartbeats 2000000
open Int (toNat)
open Sum (inl inr)
open List (replicate)
noncomputable section
namespace Go.Proofs.YtppbofaglpdghaaGreat
open Go.TQ
section
def Ta{v:C}(h:du v):aE (au dh) (bH 0 (Pb v))=some (Hf v,0,()):=(bb (Wz h)).trans ((bb (Wy h)).trans ((bb (Wx h)).trans ((bb (Ww h)).trans ((bb (Wv h)).trans ((bb (Wu h)).trans ((bb (Wt h)).trans ((bb (Ws h)).trans ((bb (Wr h)).trans ((bb (Wq h)).trans ((bb (Vb h)).trans ((bb (U9 h)).trans (qN (s:=bH 12 (Hf v)) (by rcases h with rfl|rfl|rfl|rfl<;>kernel_rfl)))))))))))))
def S9{v:C}(h:du v):aE (au dh) (bH 0 (O9 v))=some (He v,0,()):=(bb (Wp h)).trans ((bb (Wn h)).trans ((bb (Wm h)).trans ((bb (Wl h)).trans ((bb (Wk h)).trans ((bb (Wj h)).trans ((bb (Wi h)).trans ((bb (Wh h)).trans ((bb (Wg h)).trans ((bb (Wf h)).trans ((bb (U8 h)).trans ((bb (U7 h)).trans (qN (s:=bH 12 (He v)) (by rcases h with rfl|rfl|rfl|rfl<;>kernel_rfl)))))))))))))
def S8{v:C}(h:du v):aE (au dh) (bH 0 (O8 v))=some (DB v,0,()):=
 (bb (We h)).trans<|(bb (Wd h)).trans<|(bb (Wc h)).trans<|(bb (Wb h)).trans<|(bb (Wa h)).trans<|(bb (V9 h)).trans<|(bb (V8 h)).trans<|(bb (V7 h)).trans<|(bb (V6 h)).trans<|(bb (V5 h)).trans<|(bb (U6 h)).trans<|(bb (U5 h)).trans<|qN (s:=bH 12 (DB v)) (by rcases h with rfl|rfl|rfl|rfl<;>kernel_rfl)
def yu{w w':aH}(c:mF w=some true)(i:fN w.aY=some w.aY)(h:df w.Net.cD=some w.Net.cD)(g:bw w.Net.gl=some w.Net.gl)(f:bw w.Net.gG=some w.Net.gG)(d:ix w.fl=some w.fl)
  (b:aE (au dh) (bH 0 w)=some (w',0,())):km w dh=some (w',0,()):=by
 have e:iE w dh=aE (au dh) (bH 0 w):=by
  unfold iE oO aO;rw[c,QM,qaD,QN,i,QM,h,QM,g,QM,f,QM,d,QM]
  kernel_rfl
 unfold km;exact QL (λo=>Option.bind o λa=>some (a.1,a.2.1,())) (e.trans b)
def yo{a ρ:Type}(step:a->Y (a⊕ρ)):Nat->a->Y a
 |0,s=>some s
 |n+1,s=>match step s with
  |some (.inl s')=>yo step n s'
  |_=>none
def E6{a ρ:Type}{step:a->Y (a⊕ρ)}:∀{n:Nat} {s s':a},yo step n s=some s'->aE step s=aE step s'
 |0,s,s',h=>by injection h with h;rw[h]
 |n+1,s,s',h=>by
  simp only[yo]at h;split at h
  .rename_i c b;exact(bb b).trans (E6 h)
  .cases h
def Yd.iter{a ρ:Type}{step:a->Y (a⊕ρ)}{n:Nat}{s s':a}{p:ρ->Prop}(h:yo step n s=Option.some s')(k:Yd (aE step s') p):Yd (aE step s) p:=by rw[E6 h];exact k
def Yd.ub{a ρ:Type}{step:a->Y (a⊕ρ)}{s:a}{o:Y ρ}{p:ρ->Prop}(h:step s=Option.map inr o)(k:Yd o p):Yd (aE step s) p:=by obtain⟨r,rfl,b⟩:=k;exact⟨r,qN h,b⟩
def RF(T:ar):Z Int->aH
 |l=>⟨0,l.map λi=>⟨i,false,T,[]⟩,0,⟨[],0,[],[]⟩,l.map λ_=>[T]⟩
def T7:aH:=⟨0,[],0,⟨[],0,[],[]⟩,[]⟩
def FG{c:bo}{l:Z eA}{n:Nat}{w w1 w2:aH}(d:tP c 0=some (w,0,()))(f:l.length=n+1)(e:(n:Int)+1<=300)(hi:yo (oV l) n (0,T7,w,())=some ((n:Int),T7,w1,()))(b:idx l (n:Int)=some dh)(g:km w1 dh=some (w2,0,())):dX c 0 l=some (w2,(n:Int)+1,0,()):=by
 have h:aC .i64 (n:Int) 1=(n:Int)+1:=Bo O O;have a:((List.length l:Nat):Int)=(n:Int)+1:=by rw[f];omega
 unfold dX;rw[d,QM,a];rw[show(!decide ((0:Int)=0))=false from rfl,QN,qae O,QN]
 refine(E6 hi).trans ((bb (s':=((n:Int)+1,T7,w2,())) ?_).trans (qN ?_))
 .unfold oV;simp only[a];rw[qad O,qas,b,QM];refine(QL (λo=>Option.bind o _) (show km w1 _=some (w2,0,())from g)).trans ?_
  rw[QM,h];rfl
 .unfold oV;simp only[a];rw[qae O];rfl
def WQ{v:C}(h:du v):dX (IG fX 1) 0 (BB v 1++[dh])=some (Hg v,2,0,()):=
 FG (n:=1) (w:=RF fX [0]) (w1:=Pc v) d_ rfl O (by rcases h with rfl|rfl|rfl|rfl<;>kernel_rfl) d_ (by refine yu ?_ ?_ ?_ ?_ ?_ ?_ (Tb h)<;>(rcases h with rfl|rfl|rfl|rfl<;>kernel_rfl))
def WO{v:C}(h:du v):dX (IG bg 2) 0 (BB v 2++[dh])=some (Hf v,3,0,()):=
 FG (n:=2) (w:=RF bg [0,1]) (w1:=Pb v) d_ rfl O (by rcases h with rfl|rfl|rfl|rfl<;>kernel_rfl) d_ (by refine yu ?_ ?_ ?_ ?_ ?_ ?_ (Ta h)<;>(rcases h with rfl|rfl|rfl|rfl<;>kernel_rfl))
def WN{v:C}(h:du v):dX (IG aR 3) 0 (BB v 3++[dh])=some (He v,4,0,()):=
 FG (n:=3) (w:=RF aR [0,1,2]) (w1:=O9 v) d_ rfl O (by rcases h with rfl|rfl|rfl|rfl<;>kernel_rfl) d_ (by refine yu ?_ ?_ ?_ ?_ ?_ ?_ (S9 h)<;>(rcases h with rfl|rfl|rfl|rfl<;>kernel_rfl))
def Tf{v:C}(h:du v):dX (IG aB 4) 0 (BB v 4++[dh])=some (DB v,5,0,()):=
 FG (n:=4) (w:=RF aB [0,1,2,3]) (w1:=O8 v) d_ rfl O (by rcases h with rfl|rfl|rfl|rfl<;>kernel_rfl) d_ (by refine yu ?_ ?_ ?_ ?_ ?_ ?_ (S8 h)<;>(rcases h with rfl|rfl|rfl|rfl<;>kernel_rfl))
def yA(v:C)(l:Z Int):Z fY:=l.map λi=>⟨i,1,v⟩
def Vh{v:C}(h:du v):dq (Hg v)=some (yA v [0]):=by rcases h with rfl|rfl|rfl|rfl<;>kernel_rfl
def Vg{v:C}(h:du v):dq (Hf v)=some (yA v [0,1]):=by rcases h with rfl|rfl|rfl|rfl<;>kernel_rfl
def Vf{v:C}(h:du v):dq (He v)=some (yA v [0,1,2]):=by rcases h with rfl|rfl|rfl|rfl<;>kernel_rfl
def Pz{v:C}(h:du v):dq (DB v)=some (yA v [0,1,2,3]):=by rcases h with rfl|rfl|rfl|rfl<;>kernel_rfl
end
section
def Yd.GC{α:Type}{b:Bool}{x y:Y α}{p:α->Prop}(h:b=true)(k:Yd x p):Yd (bif b then x else y) p:=by rw[h];exact k
def Sr:xM=some (IG aB 4):=(ED _).trans d_
def R3{v:C}(p:Y Bool)(n:Nat)(l:Z Int)(e:l.length=n)(f:n<=4){step:Int×Unit->Y ((Int×Unit)⊕Bool)}
  (c:∀s,step s=bif decide (s.1<(((yA v l).length:Nat):Int))then Option.bind (idx (yA v l) s.1) λx=>bif (!decide (x.Value=v))then Option.map inr (some false)else some (inl (aC .i64 s.1 1,()))else Option.map inr p) (k:Yd p (·=true)):Yd (aE step (0,())) (·=true):=by
 have a:(((yA v l).length:Nat):Int)=n:=by simp[yA,e]
 refine Yd.iter (n:=n) (s':=((n:Int),())) ?_ (Yd.ub (o:=p) ?_ k)
 .have:∀i,i<=n->yo step i ((n:Int) - i,())=some ((n:Int),()):=by
   intro i
   induction i with
   |zero=>intro _;simp[yo]
   |succ i d=>
    intro hi;rw[yo,c,a];simp only;rw[qad O,qas,JR _ O];have b:((n:Int) - (i+1:Nat)).toNat<l.length:=O;rw[show(yA v l)[((n:Int) - (i+1:Nat)).toNat]?=some ⟨l[((n:Int) - (i+1:Nat)).toNat],1,v⟩by rw[yA,Qr,Qt b];rfl,QM]
    simp only[decide_true,qaD,QN];rw[show aC .i64 ((n:Int) - (i+1:Nat)) 1=(n:Int) - i by rw[Bo O O];omega]
    exact d O
  have:=this n (Ql _)
  rwa [Int.sub_self]at this
 .rw[c,a];simp only;rw[qae O,QN]
def RX:oA=some true:=by refine Yd.eq_true ?_;unfold oA;rw[ED];unfold Db oO;refine Yd.iter (n:=4) (s':=(4,BB ⟨#[97]⟩ 4,())) d_ ?_;refine Yd.ub (QN _ _) ?_;refine Yd.bind (p:=(·=IG aB 4)) (Yd.of_eq Sr rfl) ?_;rintro _ rfl;refine Yd.GC d_ ?_;refine Yd.bind (p:=(·=(DB ⟨#[97]⟩,5,0,()))) (Yd.of_eq (Tf (.inl rfl)) rfl) ?_;rintro _ rfl;refine Yd.bind (p:=(·=yA ⟨#[97]⟩ [0,1,2,3])) (Yd.of_eq (Pz (.inl rfl)) rfl) ?_;rintro _ rfl;exact Yd.of_eq d_ rfl
def GP{v:C}{p:Y Bool}{n:Int}{k:Nat}(j:(k:Int)=n)(i:k<=4){W:aH}{T:ar}{l:Z Int}(d:l.length=k)
  (f:dX (IG T k) 0 (BB v k++[dh])=some (W,n+1,0,())) (h:dq W=some (yA v l)) (g:Yd p (·=true))
  {step:Z fY->Int×Unit->Y ((Int×Unit)⊕Bool)}
  (e:∀r s,step r s=bif decide (s.1<(r.length:Int))then Option.bind (idx r s.1) λx=>bif (!decide (x.Value=v))then Option.map inr (some false)else some (inl (aC .i64 s.1 1,()))else Option.map inr p):
  Yd (Option.bind (dX (IG T k) 0 (BB v k++[dh])) λc=>Option.bind (dq c.1) λb=>
   Option.bind (bif (!decide (c.2.2.1=(0:Int)))then some true else some (!decide (((List.length b:Nat):Int)=n))) λm=>
   bif m then some false else aE (step b) (0,())) (·=true):=by
 rw[f,QM,h,QM];have a:(((yA v l).length:Nat):Int)=n:=by simp[yA,d,j]
 simp only[a,decide_true,qaD,QN,QM];exact R3 p k l d i (λs=>e _ s) g
def Tm(g:Z Int):lV g=some true:=by
 refine Yd.eq_true ?_;unfold lV oO;refine Yd.bind (UQ g) λo m=> ?_
 refine Yd.bind (Pf m O O O) λi j=> ?_
 obtain⟨n,s⟩:=i;obtain⟨d,g1,f,_⟩:=j;simp only at d g1 f;have f:=f O;have l:n=1\/n=2\/n=3\/n=4:=O;have a:Yd (Option.bind oA λe=>some e) (·=true):=Yd.of_eq (by rw[RX];rfl) rfl
 have c:∀{v:C},UI v->du v:=λh=>by unfold du;simpa[UI]using h
 rcases l with rfl|rfl|rfl|rfl
 .refine Yd.iter (n:=1) (s':=((1:Int),bo.mk [],replicate 1 (bS.mk true fX),())) d_ ?_;refine Yd.ub (QN _ _) ?_;refine Yd.bind (Bp d) ?_;rintro⟨v,s'⟩ ⟨_,b⟩;refine Yd.iter (n:=1) (s':=((1:Int),BB v 1,())) d_ ?_;refine Yd.ub (QN _ _) ?_;refine Yd.GC d_ ?_;exact GP (k:=1) rfl O rfl (WQ (c b)) (Vh (c b)) a λ_ _=>rfl
 .refine Yd.iter (n:=2) (s':=((2:Int),bo.mk [],replicate 2 (bS.mk true bg),())) d_ ?_;refine Yd.ub (QN _ _) ?_;refine Yd.bind (Bp d) ?_;rintro⟨v,s'⟩ ⟨_,b⟩;refine Yd.iter (n:=2) (s':=((2:Int),BB v 2,())) d_ ?_;refine Yd.ub (QN _ _) ?_;refine Yd.GC d_ ?_;exact GP (k:=2) rfl O rfl (WO (c b)) (Vg (c b)) a λ_ _=>rfl
 .refine Yd.iter (n:=3) (s':=((3:Int),bo.mk [],replicate 3 (bS.mk true aR),())) d_ ?_;refine Yd.ub (QN _ _) ?_;refine Yd.bind (Bp d) ?_;rintro⟨v,s'⟩ ⟨_,b⟩;refine Yd.iter (n:=3) (s':=((3:Int),BB v 3,())) d_ ?_;refine Yd.ub (QN _ _) ?_;refine Yd.GC d_ ?_;exact GP (k:=3) rfl O rfl (WN (c b)) (Vf (c b)) a λ_ _=>rfl
 .refine Yd.iter (n:=4) (s':=((4:Int),bo.mk [],replicate 4 (bS.mk true aB),())) d_ ?_;refine Yd.ub (QN _ _) ?_;refine Yd.bind (Bp d) ?_;rintro⟨v,s'⟩ ⟨_,b⟩;refine Yd.iter (n:=4) (s':=((4:Int),BB v 4,())) d_ ?_;refine Yd.ub (QN _ _) ?_;refine Yd.GC d_ ?_;exact GP (k:=4) rfl O rfl (Tf (c b)) (Pz (c b)) a λ_ _=>rfl
end
end Go.Proofs.YtppbofaglpdghaaGreat
end
