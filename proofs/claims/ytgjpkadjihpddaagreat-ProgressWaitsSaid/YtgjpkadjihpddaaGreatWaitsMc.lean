/-
  Texts made small by a program (see NOTES). Conditions: those that each theorem names.
-/
import Derived.Test.YtgjpkadjihpddaaGreatWaitsMb
import Derived.KernelRfl
import Derived.Laws.CopyRow
import Derived.Laws.Externs
import Derived.Lib.Overlaps
import Derived.Lib.AppendZerosOnto
import Derived.Laws.NewBlocks
import Derived.Test.YtgjpkadjihpddaaGreatProg
import Derived.Shelf.Spec.SlicesInsert
import Derived.Shelf.SlSortCmp.NoneTotal
set_option linter.unusedVariables false
set_option linter.unusedSimpArgs false
set_option linter.unusedSectionVars false
set_option maxHeartbeats 2000000
noncomputable section
namespace Go.TQ
section
open Go.RowKit
section
variable {P : Program}
def T0(P:Program)(l:Nat)(i:Int)(W:World)(R:Ending->World->Prop):Prop:=
 ∃(fn:FuncId) (tmps:Array Value) (assign body:Code),(Instr.yield l #[.int .i64 i]).run P W= .ok (.round l fn tmps assign body) W/\RoundIn (WF none) 0 P l fn tmps assign body W R
structure BO (y:Value) (s:Int) (b:Bool) (a:Act):Prop where
 defers:a.defers=[]
 size:a.tmps.size=14
 y:a.tmps.getD 0 undef=y
 s:a.tmps.getD 2 undef= .int .i64 s
 b:a.tmps.getD 3 undef= .bool b
def Ae(y:Value)(t:Nat):Option Value:=if t=0 then some y else none
def vz(s:Int)(b:Bool)(t:Nat):PV:=if t=2 then .int .i64 s else if t=3 then .bool b else .any
variable {hs : List Nat} {y : Value} {W : World} {X : Nat -> Prop} {hX : tq W X} {a : Act} {s : Int} {b : Bool}
theorem BO.Ou(h:BO y s b a)(t:Nat):bm W X dX (vz s b t) (a.tmps.getD t undef):=by
 unfold vz;split
 ·rename_i e;rw[e,h.s];exact .int _ _
 ·split
  ·rename_i e;rw[e,h.b];exact .bool _
  ·exact .any _
theorem BO.kt(h:BO y s b a)(t:Nat)(v:Value)(hv:Ae y t=some v):a.tmps.getD t undef=v:=by
 unfold Ae at hv;split at hv
 ·rename_i e;injection hv with hv;rw[e,h.y,hv]
 ·cases hv
theorem BO.rel(h:BO y s b a)(L:Nat->Value):Rel (EB 14 W X hX (Ae y)) (SB (vz s b)) a W L:=PT hX h.defers h.size h.kt h.Ou
theorem BO.of{S':St}{W':World}{L':Nat->Value}{a':Act}(h:Rel (EB 14 W X hX (Ae y)) S' a' W' L')(h1:S'.env 2= .int .i64 s)(h2:S'.env 3= .bool b):BO y s b a':=by
 refine⟨h.defers.none rfl,h.size.1,h.size.2 0 y rfl,?_,?_⟩
 ·have:=h.env 2;rw[h1]at this;exact this.eV
 ·have:=h.env 3;rw[h2]at this;exact this.ku
theorem Wj{Γ:mR}(hΓ:lR P Γ){c0:Code}{gs:List SG}(hcc:aM P 14 hs c0=some (.xu gs)){env:Nat->PV}{S':St}(hlen:gs.length<=8)(hd:∀g∈gs,∀t,g.d=some t->t≠0){L:Nat->Value}(h:Rel (EB 14 W X hX (Ae y)) (SB env) a W L)
  (hr:AB Γ 0 gs (SB env)=some S') {Q:Exit->Act->World->Prop} (hQ:∀a' W' L',Rel (EB 14 W X hX (Ae y)) S' a' W' L'->Q .normal a' W'):c0.wpIn (WF none) 0 P Q a W:=by
 obtain⟨id,ops,rfl,hm,hlt⟩:=O2 hcc;refine wpIn_region_list ?_;have hl:=pK hm;refine Ex (E:=EB 14 W X hX (Ae y)) hΓ ops.toList gs 0 (SB env) S' a W L hm h (by simp only[SB];omega) (fun o ho t ht=>⟨hlt o ho t ht,?_⟩) hr hQ
 have:=Im (p:=fun t=>t≠0) hm hd o ho t ht
 show Ae y t=none;unfold Ae;rw[Qs this]
theorem aal{l:Nat}(hX:tq W X){J0 J1:World->Prop}(hJ0:∀W',Fr none W W'->J0 W')
  (hJ:∀W' W'',J1 W'->Fr none W' W''->J1 W'') {Jx:World->Prop} (hJx:∀W' W'',Jx W'->Fr none W' W''->Jx W'') (hG1:∀W',J1 W'->GI W') (hGx:∀W',Jx W'->GI W')
  (hr:∀W':World,J0 W'->T0 P l s W' fun en W''=>(en= .returned (.bool true)/\J1 W'')\/(en= .returned (.bool false)/\Jx W''))
  {c0:Code} (hcc:aM P 14 hs c0=some (.xu [⟨some 10,none,.lI (.tmp 0)⟩,⟨some 11,none,.lI (.tmp 2)⟩,⟨some 12,none,.vb (.tmp 10) [.tmp 11]⟩,⟨some 13,none,.not (.tmp 12)⟩]))
  (hB:BO (.func (.yield l) #[] #[]) s b a) {Q:Exit->Act->World->Prop}
  (hQ:∀a' W' c,BO (.func (.yield l) #[] #[]) s b a'->a'.tmps.getD 13 undef= .bool (!c)->(c=true->J1 W')->(c=false->Jx W')->Q .normal a' W'):c0.wpIn (WF none) 0 P Q a W:=by
 obtain⟨id,ops,rfl,hmm,hlt⟩:=O2 hcc;refine wpIn_region_list ?_;obtain⟨o10,l1,e1,g10,hm1⟩:=ss hmm;obtain⟨o11,l2,rfl,g11,hm2⟩:=ss hm1;obtain⟨o12,l3,rfl,g12,hm3⟩:=ss hm2;obtain⟨o13,l4,rfl,g13,hm4⟩:=ss hm3;have:=GL hm4;subst this;rw[e1]at hlt ⊢
 have plain:∀{o:Oper} {d:Option Nat} {s:bS},uh P hs ops o=some ⟨d,none,s⟩->o.guard=none/\o.dst=d/\Ea P hs o=some s:=by
  intro o d s hg;obtain⟨q1,q2,q3⟩:=Ht hg;rcases q3 with⟨q3,_⟩|⟨_,_,_,_,_,_,_,q⟩
  ·exact⟨q3,q2.symm,q1⟩
  ·cases q
 obtain⟨u1,u2,u3⟩:=plain g10
 have hmv:(o10.op= .move (.tmp 0)\/o10.op= .assign (.tmp 0)):=by
  unfold Ea at u3;split at u3
  case h_1 x hx=>simp only[Qd,Qc,Qf,bS.lI.injEq]at u3;obtain⟨z,hz,rfl⟩:=u3;rw[ze hz]at hx;exact .inl hx
  case h_2 x hx=>simp only[Qd,Qc,Qf,bS.lI.injEq]at u3;obtain⟨z,hz,rfl⟩:=u3;rw[ze hz]at hx;exact .inr hx
  all_goals (exfalso)
  all_goals (repeat' (first|(cases u3;done)|split at u3|(simp only[Qd,Qc]at u3;obtain⟨_,_,u3⟩:=u3)|(obtain⟨_,_,u3⟩:=u3)))
 refine wpListIn_plain u1 fun K hK=> ?_
 have hev:a.eval (.tmp 0)= .func (.yield l) #[] #[]:=hB.y
 have step1:∀{Q':Exit->Act->World->Prop},K (a.put (some 10) (.func (.yield l) #[] #[])) W->o10.wpIn (WF none) 0 P a W K Q':=by
  intro Q' hk;unfold Oper.wpIn;rw[Oper.semAt_eq _ _ _ (sO u3)]
  have hrun:(execOp a.eval o10).run P W= .ok (.value (.func (.yield l) #[] #[])) W:=by
   rcases hmv with hx|hx<;>simp[execOp,hx,hev]
  rw[hrun];refine⟨fun _ _=>trivial,?_⟩
  show K (a.put o10.dst _) W;rw[u2];exact hk
 refine step1 (hK _ _ ?_);have hsz:(a.put (some 10) (.func (.yield l) #[] #[])).tmps.size=14:=by simp[Act.put,hB.size]
 have hne:∀t,t≠10->(a.put (some 10) (.func (.yield l) #[] #[])).tmps.getD t undef=a.tmps.getD t undef:=fun t ht=>JN ht
 have h10:(a.put (some 10) (.func (.yield l) #[] #[])).tmps.getD 10 undef= .func (.yield l) #[] #[]:=by
  simp[Act.put,QN,Array.getElem?_setIfInBounds_self_of_lt (show 10<a.tmps.size by rw[hB.size];omega)]
 have hrel:Rel (EB 14 W X hX (fun t=>if t=10 then some (.func (.yield l) #[] #[])else Ae (.func (.yield l) #[] #[]) t)) (SB (vz s b)) (a.put (some 10) (.func (.yield l) #[] #[])) W (fun _=>undef):=by
  refine PT hX hB.defers hsz (fun t v hv=> ?_) (fun t=> ?_)
  ·by_cases h0:t=10
   ·rw[Qr h0]at hv;injection hv with hv;rw[h0,h10,hv]
   ·rw[Qs h0]at hv;rw[hne t h0];exact hB.kt t v hv
  ·by_cases h0:t=10
   ·have:vz s b t= .any:=by rw[h0];rfl
    rw[this];exact .any _
   ·rw[hne t h0];exact hB.Ou t
 have hmap:[o11].mapM (uh P hs ops)=some [⟨some 11,none,.lI (.tmp 2)⟩]:=by
  simp only[Qq74,List.mapM_nil,g11,Qd,Qa,Option.pure_def]
 show wpListIn (WF none) 0 P ops Q ([o11]++[o12,o13]) _ W;refine Rt (E:=EB 14 W X hX _) LI _ _ 0 _ ((SB (vz s b)).cY (some 11) (.int .i64 s) none) _ W _ hmap hrel (by simp[SB]) (fun o ho t ht=>⟨hlt o (by simp only[QA]at ho ⊢;simp_all) t ht,?_⟩) rfl (fun a5 W5 L5 h5=> ?_)
 ·have:=Im (p:=fun t=>t≠0/\t≠10) hmap (by intro g hg t ht;simp only[QA,QR,or_false]at hg;subst hg;injection ht with ht;omega) o ho t ht
  show(if t=10 then _ else Ae _ t)=none
  rw[Qs this.2];unfold Ae;rw[Qs this.1]
 have hfr5:Fr none W W5:=BD h5;have v10:a5.tmps.getD 10 undef= .func (.yield l) #[] #[]:=h5.size.2 10 _ rfl;have v11:a5.tmps.getD 11 undef= .int .i64 s:=by have:=h5.env 11;exact(show bm _ _ _ (.int .i64 s) _ from this).eV
 have hB5:BO (.func (.yield l) #[] #[]) s b a5:=⟨h5.defers.none rfl,h5.size.1,h5.size.2 0 _ rfl,(show bm _ _ _ (.int .i64 s) _ from h5.env 2).eV,(show bm _ _ _ (.bool b) _ from h5.env 3).ku⟩
 obtain⟨fn,tmps,assign,body,hy,hround⟩:=hr W5 (hJ0 W5 hfr5);obtain⟨w1,w2,w3⟩:=plain g12;obtain⟨gv,args,ts,hop,hgv,hargs⟩:=ZA w3;have hgv:=ze hgv;subst hgv;obtain⟨x11,xs,ex,hx11,hxs⟩:=ss hargs;have:=GL hxs;subst this;rw[ze hx11]at ex;have hargs':args=#[.tmp 11]:=by rw[<-Array.toArray_toList (xs:=args),ex]
 refine wpListIn_plain w1 fun K hK=> ?_
 unfold Oper.wpIn;rw[Oper.semAt_eq _ _ _ (sO w3)]
 have hrun12:(execOp a5.eval o12).run P W5= .ok (.round l fn tmps assign body) W5:=by
  have q1:a5.eval (.tmp 10)= .func (.yield l) #[] #[]:=v10;simp only[execOp,hop,resolve,q1,Deferred.ofValue,Sem.run_bind,Sem.run_pure,Result.andThen_ok,invoke,hargs'];have q4:a5.tmps[11]?.getD undef= .int .i64 s:=by rw[<-QN];exact v11
  simpa[Act.eval,q4]using hy
 rw[hrun12];refine⟨fun _ _=>trivial,(fun h=>by cases h),hround.mono ?_⟩
 rintro en W6 hen
 have fin:∀c:Bool,en= .returned (.bool c)->(c=true->J1 W6)->(c=false->Jx W6)->K (a5.put o12.dst (.bool c)) W6:=by
  rintro c rfl hj1 hjx;refine hK _ _ ?_;rw[w2];have hsz6:(a5.put (some 12) (.bool c)).tmps.size=14:=by simp[Act.put,hB5.size]
  have hne6:∀t,t≠12->(a5.put (some 12) (.bool c)).tmps.getD t undef=a5.tmps.getD t undef:=fun t ht=>JN ht
  have h12:(a5.put (some 12) (.bool c)).tmps.getD 12 undef= .bool c:=by
   simp[Act.put,QN,Array.getElem?_setIfInBounds_self_of_lt (show 12<a5.tmps.size by rw[hB5.size];omega)]
  have hgi:GI W6:=by
   cases c with
   |true=>exact hG1 _ (hj1 rfl)
   |false=>exact hGx _ (hjx rfl)
  have hrel6:Rel (EB 14 W6 (fun _=>False) (.nil hgi) (Ae (.func (.yield l) #[] #[]))) (SB fun t=>if t=12 then .bool c else vz s b t) (a5.put (some 12) (.bool c)) W6 (fun _=>undef):=by
   refine PT _ hB5.defers hsz6 (fun t v hv=> ?_) (fun t=> ?_)
   ·by_cases h0:t=12
    ·subst h0;cases hv
    ·rw[hne6 t h0];exact hB5.kt t v hv
   ·split
    ·rename_i h0;rw[h0,h12];exact .bool _
    ·rename_i h0;rw[hne6 t h0];exact hB5.Ou t
  have hmap13:[o13].mapM (uh P hs ops)=some [⟨some 13,none,.not (.tmp 12)⟩]:=by simp only[Qq74,List.mapM_nil,g13,Qd,Qa,Option.pure_def]
  refine Ex (E:=EB 14 W6 (fun _=>False) (.nil hgi) _) LI _ _ 0 _ ((SB fun t=>if t=12 then .bool c else vz s b t).cY (some 13) (.bool !c) none) _ W6 _ hmap13 hrel6 (by simp[SB]) (fun o ho t ht=>⟨hlt o (by simp only[QA]at ho ⊢;simp_all) t ht,?_⟩) rfl (fun a7 W7 L7 h7=> ?_)
  ·have:=Im (p:=fun t=>t≠0) hmap13 (by intro g hg t ht;simp only[QA,QR,or_false]at hg;subst hg;injection ht with ht;omega) o ho t ht
   show Ae _ t=none;unfold Ae;rw[Qs this]
  ·have hfr7:=BD h7;exact hQ a7 W7 c (BO.of h7 rfl rfl) (show bm _ _ _ (.bool !c) _ from h7.env 13).ku (fun hb=>hJ _ _ (hj1 hb) hfr7) (fun hb=>hJx _ _ (hjx hb) hfr7)
 rcases hen with⟨rfl,hj⟩|⟨rfl,hj⟩
 ·exact fin true rfl (fun _=>hj) (fun h=>by cases h)
 ·exact fin false rfl (fun h=>by cases h) (fun _=>hj)
theorem aae{fN:FuncId}{c s:Int}{q:Int×Bool×Unit}(hen:Enters P fN)(hcon:M4 P fN false [] [.int .i64 s,.int .i64 c] (.dg [.int .i64 q.1,.bool q.2.1]) []):
  ∃(Γ:mR) (S':St),lR P Γ/\AB Γ 0 [⟨some 6,none,.lI (.tmp 2)⟩,⟨some 7,none,.call fN [.tmp 6,.oY (.int .i64 c)]⟩,⟨some 5,none,.lI (.tmp 7)⟩,⟨some 8,none,.vy 0 (.tmp 5)⟩,⟨some 9,none,.vy 1 (.tmp 5)⟩,⟨some 2,none,.lI (.tmp 8)⟩,⟨some 3,none,.lI (.tmp 9)⟩] (SB (vz s b))=some S'/\S'.env 2= .int .i64 q.1/\S'.env 3= .bool q.2.1:=by
 have hcall:kq (oT fN (mZ false 0 false false [] [.int .i64 s,.int .i64 c] (.dg [.int .i64 q.1,.bool q.2.1]) [])) 1 ((SB (vz s b)).cY (some 6) (.int .i64 s) none) fN [.int .i64 s,.int .i64 c]=some (.dg [.int .i64 q.1,.bool q.2.1],none):=by
  simp only[kq,rq,mZ,Qq,Qu];rw[Qr ⟨rfl,rfl⟩];rfl
 refine⟨oT fN (mZ false 0 false false [] [.int .i64 s,.int .i64 c] (.dg [.int .i64 q.1,.bool q.2.1]) []),(((((((SB (vz s b)).cY (some 6) (.int .i64 s) none).cY (some 7) (.dg [.int .i64 q.1,.bool q.2.1]) none).cY (some 5) (.dg [.int .i64 q.1,.bool q.2.1]) none).cY (some 8) (.int .i64 q.1) none).cY (some 9) (.bool q.2.1) none).cY (some 2) (.int .i64 q.1) none).cY (some 3) (.bool q.2.1) none,rp ⟨hen,fun _ cs as' r' cs' hm=> ?_,(fun hq=>by cases hq),trivial,(fun hq=>by cases hq)⟩,?_,rfl,rfl⟩
 ·simp only[mZ]at hm;split at hm
  ·rename_i he;injection hm with hm
   injection hm with h1 h2
   subst h1 h2;obtain⟨rfl,rfl⟩:=he;exact hcon
  ·cases hm
 ·have s6:z8 (oT fN (mZ false 0 false false [] [.int .i64 s,.int .i64 c] (.dg [.int .i64 q.1,.bool q.2.1]) [])) 0 (SB (vz s b)) ⟨some 6,none,.lI (.tmp 2)⟩=some ((SB (vz s b)).cY (some 6) (.int .i64 s) none):=rfl
  have s7:z8 (oT fN (mZ false 0 false false [] [.int .i64 s,.int .i64 c] (.dg [.int .i64 q.1,.bool q.2.1]) [])) 1 ((SB (vz s b)).cY (some 6) (.int .i64 s) none) ⟨some 7,none,.call fN [.tmp 6,.oY (.int .i64 c)]⟩=some (((SB (vz s b)).cY (some 6) (.int .i64 s) none).cY (some 7) (.dg [.int .i64 q.1,.bool q.2.1]) none):=by
   simp only[z8,SG.wanted,exec];rw[show[bn.tmp 6,bn.oY (.int .i64 c)].map (·.val ((SB (vz s b)).cY (some 6) (.int .i64 s) none))=[.int .i64 s,.int .i64 c]from rfl,hcall]
   rfl
  simp only[AB,s6,s7];rfl
theorem YR{f fN:FuncId}{c:Int}(hf:nU P f 14 (EK fN c) [])(hen:Enters P fN){nx:Int->Option (Int×Bool×Unit)}(hn:∀s q,nx s=some q->M4 P fN false [] [.int .i64 s,.int .i64 c] (.dg [.int .i64 q.1,.bool q.2.1]) []){l:Nat}
  (J:Nat->Int->Bool->(Nat->Prop)->World->Prop) (Jx:World->Prop) (hc:∀i s b X W,J i s b X W->tq W X) (hJ:∀i s b X W' W'',J i s b X W'->Fr none W' W''->J i s b X W'') (hJx:∀W' W'',Jx W'->Fr none W' W''->Jx W'') (hGx:∀W',Jx W'->GI W')
  (h00:∀s X W,J 0 s true X W->False)
  (hr:∀(m:Nat) (s:Int) (X:Nat->Prop) (W':World),J (m+1) s true X W'->T0 P l s W' fun en W''=>(en= .returned (.bool true)/\∃q X,nx s=some q/\J m q.1 q.2.1 X W'')\/(en= .returned (.bool false)/\Jx W''))
  (n0:Nat) (W:World) (h0:J n0 0 true X W):CallsIn (WF none) 0 P f #[.func (.yield l) #[] #[]] W fun en W'=>(∃v,en= .returned v)/\((∃i s X,J i s false X W')\/Jx W'):=by
 obtain⟨fn,hs,h1,h2,h3,h4,_⟩:=hf
 cases hb:fn.body with
 |none=>rw[hb]at h3;cases h3
 |some c0=>
 rw[hb]at h3;have h3:aM P 14 hs c0=some (EK fN c):=h3
 have hres:fn.results.toList=[]:=by
  cases hq:fn.results.toList with
  |nil=>rfl
  |cons r rs=>rw[hq]at h4;cases r<;>simp only[nc]at h4<;>first|(split at h4<;>cases h4)|(simp only[Qb]at h4;obtain⟨_,_,h4⟩:=h4;cases h4)
 have hresr:∀(tm:Array Value) (W:World),(results fn tm).run P W= .ok (.tuple #[]) W:=by
  intro tm W;unfold results;rw[Array.mapM_eq_mapM_toList,hres];simp
 refine callsIn_of_wp (F:=WF none) (n:=0) h1 hb trivial ?_;obtain⟨cA,cB,rfl,hA,hB⟩:=Aq h3;obtain⟨cL,rfl,hL⟩:=JD hB;obtain⟨cR,rfl,hR⟩:=Xw hL;obtain⟨cR1,cR2,rfl,hR1,hR2⟩:=Aq hR;obtain⟨cT,cC,rfl,hT,hC⟩:=Aq hR1;obtain⟨oc,cS,cX,rfl,hoc,hcS,hcX⟩:=MR hC;have:=MQ hcS;subst this;have:=Xx hcX;subst this;have:=ze hoc;subst this;obtain⟨cM,cN,rfl,hM,hN⟩:=Aq hR2;obtain⟨cM2,rfl,hM2⟩:=JD hM;obtain⟨cG,cH,rfl,hG,hH⟩:=Aq hM2;obtain⟨od,cV,cK,rfl,hod,hcV,hcK⟩:=MR hH;have:=ZG hcV;subst this;have:=MQ hcK;subst this;have:=ze hod;subst this
 have hargs:∀t,(#[Value.func (.yield l) #[] #[]]++Array.replicate (fn.ntmps - (#[Value.func (.yield l) #[] #[]]:Array Value).size) undef).getD t undef=if t=0 then .func (.yield l) #[] #[]else undef:=by
  intro t;rw[h2,QN,Array.getElem?_append]
  match t with
  |0=>rfl
  |t+1=>
   simp only[List.size_toArray,QE,QY];rw[Qs (by omega),Qs (by omega),Array.getElem?_replicate]
   split<;>rfl
 refine wpIn_seq ?_
 have hrel0:Rel (EB 14 W X (hc _ _ _ _ _ h0) (Ae (.func (.yield l) #[] #[]))) (SB fun _=> .any) {tmps:=#[Value.func (.yield l) #[] #[]]++Array.replicate (fn.ntmps - (#[Value.func (.yield l) #[] #[]]:Array Value).size) undef,defers:=[]} W (fun _=>undef):=by
  refine PT _ rfl (by simp[h2]) (fun t v hv=> ?_) (fun t=> .any _)
  simp only;rw[hargs t];unfold Ae at hv;split at hv
  ·rename_i e;rw[Qr e];injection hv
  ·cases hv
 have dA:∀g∈[(⟨some 2,none,.lI (.oY (.int .i64 0))⟩:SG),⟨some 3,none,.lI (.oY (.bool true))⟩],∀t,g.d=some t->t≠0:=by
  intro g hg t ht;simp only[QA,QR,or_false]at hg;rcases hg with rfl|rfl<;>(injection ht with ht;omega)
 refine Wj LI hA (by simp) dA hrel0 rfl fun a1 W1 L1 r1=> ?_
 have hJ1:J n0 0 true X W1:=hJ _ _ _ _ _ _ h0 (BD r1);have b1:BO (.func (.yield l) #[] #[]) 0 true a1:=BO.of r1 rfl rfl;refine wpIn_block ?_;refine wpIn_loop_ghost (fun n a W=>∃s b X,BO (.func (.yield l) #[] #[]) s b a/\J n s b X W) n0 ⟨0,true,X,b1,hJ1⟩ ?_
 rintro n a W ⟨s,b,X,hb,hj⟩;refine wpIn_seq (wpIn_seq ?_)
 have dT:∀g∈[(⟨some 4,none,.lI (.tmp 3)⟩:SG)],∀t,g.d=some t->t≠0:=by
  intro g hg t ht;simp only[QA,QR,or_false]at hg;subst hg;injection ht with ht
  omega
 refine Wj LI hT (by simp) dT (hb.rel (hX:=hc _ _ _ _ _ hj) (fun _=>undef)) rfl fun a2 W2 L2 r2=> ?_
 have hj2:J n s b X W2:=hJ _ _ _ _ _ _ hj (BD r2);have b2:BO (.func (.yield l) #[] #[]) s b a2:=BO.of r2 rfl rfl;have t4:a2.eval (.tmp 4)= .bool b:=(show bm _ _ _ (.bool b) _ from r2.env 4).ku
 refine wpIn_cond t4 ?_
 cases b with
 |false=>
  refine wpIn_exit ?_;simp only[Exit.then,Exit.inBlock,Qt]
  exact⟨b2.defers,_,hresr _ _,⟨_,rfl⟩,.inl ⟨n,s,X,hj2⟩⟩
 |true=>
  refine wpIn_skip ?_
  cases n with
  |zero=>exact(h00 _ _ _ hj2).elim
  |succ m=>
  refine wpIn_seq (wpIn_block (wpIn_seq ?_));refine aal (J0:=J (m+1) s true X) (J1:=fun W=>∃q X,nx s=some q/\J m q.1 q.2.1 X W) (Jx:=Jx) (hc _ _ _ _ _ hj2) (fun W' hW'=>hJ _ _ _ _ _ _ hj2 hW') (fun _ _ ⟨q,X',q0,q1⟩ q2=>⟨q,X',q0,hJ _ _ _ _ _ _ q1 q2⟩) hJx (fun W' ⟨_,X',_,q⟩=>(hc _ _ _ _ _ q).gi) hGx (fun W' q1=>hr m s X W' q1) hG b2 fun a3 W3 c3 hb3 t13 hj3 hx3=> ?_
  refine wpIn_cond (t:= !c3) t13 ?_
  cases c3 with
  |false=>
   refine wpIn_ret ?_;exact⟨hb3.defers,_,hresr _ _,⟨_,rfl⟩,.inr (hx3 rfl)⟩
  |true=>
   refine wpIn_skip ?_;obtain⟨q,X',hq,hj4⟩:=hj3 rfl;obtain⟨Γ,S',hΓ,hrun,e2,e3⟩:=aae (b:=true) hen (hn s q hq)
   have dN:∀g∈[(⟨some 6,none,.lI (.tmp 2)⟩:SG),⟨some 7,none,.call fN [.tmp 6,.oY (.int .i64 c)]⟩,⟨some 5,none,.lI (.tmp 7)⟩,⟨some 8,none,.vy 0 (.tmp 5)⟩,⟨some 9,none,.vy 1 (.tmp 5)⟩,⟨some 2,none,.lI (.tmp 8)⟩,⟨some 3,none,.lI (.tmp 9)⟩],∀t,g.d=some t->t≠0:=by
    intro g hg t ht;simp only[QA,QR,or_false]at hg;rcases hg with rfl|rfl|rfl|rfl|rfl|rfl|rfl<;>(injection ht with ht;omega)
   refine Wj hΓ hN (by simp) dN (hb3.rel (hX:=hc _ _ _ _ _ hj4) (fun _=>undef)) hrun fun a4 W4 L4 r4=> ?_
   exact⟨m,Nat.lt_succ_self m,q.1,q.2.1,X',BO.of r4 e2 e3,hJ _ _ _ _ _ _ hj4 (BD r4)⟩
variable {S : St}
theorem agT(ts:Array Value)(p0:Nat)(u:Value):(#[p0].zip #[u]).foldl (fun tmps x=>match x with|(t,a)=>tmps.setIfInBounds t a) ts=ts.setIfInBounds p0 u:=by
 rw[<-Array.foldl_toList,Array.toList_zip];rfl
theorem ah4{ts:Array Value}{p0 t:Nat}{u:Value}(h0:p0<ts.size):(ts.setIfInBounds p0 u).getD t undef=if t=p0 then u else ts.getD t undef:=by
 simp only[QN]
 by_cases q0:t=p0
 ·subst q0;rw[Qr rfl,Array.getElem?_setIfInBounds_self_of_lt h0];rfl
 ·rw[Qs q0,Array.getElem?_setIfInBounds_ne (fun e=>q0 e.symm)]
theorem ag6{nt:Nat}{p0:Nat}{assign body:Code}{f fN:FuncId}{c:Int}{Q:Exit->St->Prop}(hf:nU P f 14 (EK fN c) [])(hen:Enters P fN){nx:Int->Option (Int×Bool×Unit)}(hn:∀s q,nx s=some q->M4 P fN false [] [.int .i64 s,.int .i64 c] (.dg [.int .i64 q.1,.bool q.2.1]) [])
  (hna:AG assign=true) (hnb:AG body=true) (hp0:p0<nt) (I:Nat->Int->Bool->St->Prop) (n0:Nat)
  (h0:T1 (I n0 0 true) (S.uZ (mm (.rangeFunc (.func f) #[p0] assign body)))) (h00:∀s T,I 0 s true T->False)
  (hround:∀m s T,I (m+1) s true T->V P nt assign (Nd (V P nt body (aeR (mm (.rangeFunc (.func f) #[p0] assign body)) (fun T=>∃q,nx s=some q/\I m q.1 q.2.1 T) Q)) (fun _ _=>False)) {T with env:=bJ T.env p0 (.int .i64 s)})
  (hend:∀m s T,I m s false T->Q .normal T):V P nt (.rangeFunc (.func f) #[p0] assign body) Q S:=by
 intro E hE hk a w L hrel;generalize hD:mm (.rangeFunc (.func f) #[p0] assign body)=D at*;have hk1:∀t∈D,E.kt t=none:=by rw[<-hD];exact hk.1
 obtain⟨hrd,hnd⟩:E.rd=none/\E.nd=false:=by
  rcases hk.2 with h|h
  ·exact h
  ·cases h
 have hDa:∀t∈mm assign,t∈D:=by rw[<-hD];intro t ht;simp only[mm,Qz];exact .inl (.inr ht)
 have hDb:∀t∈mm body,t∈D:=by rw[<-hD];intro t ht;simp only[mm,Qz];exact .inr ht
 have hD0:p0∈D:=by rw[<-hD];simp[mm]
 obtain⟨S0,hw0,h0⟩:=h0;obtain⟨L,hrel0⟩:=hw0 E a w L (hrel.drop D);rw[hrd];refine wpIn_rangeFunc ?_;intro fn _;obtain⟨rec,hrec⟩:∃rec:LoopState->Option Code->Loop,rec=fun st pe=>{state:=st,pending:=pe,fn,tmps:=a.tmps,params:=#[p0],assign,body,defers:=w.heap.size}:=⟨_,rfl⟩
 obtain⟨W1,hW1⟩:∃W1,(w.alloc (.deferred (some []))).alloc (.loop (rec .ready none))=W1:=⟨_,rfl⟩
 have hL1:W1.heap[w.heap.size+1]?=some (.loop (rec .ready none)):=by
  rw[<-hW1];have:=World.alloc_heap_new (w.alloc (.deferred (some []))) (.loop (rec .ready none));rwa [World.size_alloc]at this
 have hK1:W1.heap[w.heap.size]?=some (.deferred (some [])):=by
  rw[<-hW1];exact(Below.heap_alloc _ _ _ (by simp)).trans (World.alloc_heap_new w _)
 let J:Nat->Int->Bool->(Nat->Prop)->World->Prop:=fun i s b X W=>∃T L',X=br E T L'/\I i s b T/\Rel E T a W L'/\W.heap[w.heap.size+1]?=some (.loop (rec .ready none))/\W.heap[w.heap.size]?=some (.deferred (some []))
 let Jx:World->Prop:=fun W=>∃en j T L',Ze en=some j/\Q en T/\Rel E T a W L'/\W.heap[w.heap.size+1]?=some (.loop (rec .done (some j)))/\W.heap[w.heap.size]?=some (.deferred (some []))
 have grow:∀{T:St} {L':Nat->Value} {W' W'':World},Rel E T a W' L'->Fr none W' W''->Rel E T a W'' L':=fun h hf=>(h.grow hf.os hf.tape hf.output hf.size (fun b hb=>hf.block b hb (by simp)) hf.drawn).1
 have eu:∀{W' W'':World} {b:Nat} {o:Obj},Fr none W' W''->W'.heap[b]?=some o->W''.heap[b]?=some o:=fun hf hb=>by rw[hf.block _ (Q8.1 hb).1 (by simp)];exact hb
 have hE0:E.w0.heap.size<=w.heap.size:=hrel.fr.size;have hEk:E.wk.heap.size<=w.heap.size:=hrel.fr.ko.size
 have hW1s:∀(b:Nat),b<w.heap.size->W1.heap[b]?=w.heap[b]?:=by
  intro b hb;rw[<-hW1];exact(Below.heap_alloc _ _ _ (by simp;omega)).trans (Below.heap_alloc _ _ _ hb)
 have hrel1:Rel E S0 a W1 L:=(hrel0.grow (w':=W1) (by rw[<-hW1];rfl) (by rw[<-hW1];rfl) (by rw[<-hW1];rfl) (by rw[<-hW1];simp;omega) hW1s (by rw[<-hW1];exact DL.of (QI _))).1
 have old:∀d∈a.defers,∃Do,d={target:= .collected Do,args:=#[]}/\E.w0.heap.size<=Do/\Do<w.heap.size:=by
  intro d hd;obtain⟨Do,q1,q2,q3⟩:=hrel.defers.at_ d hd
  exact⟨Do,q1,q2,(Q8.1 q3).1⟩
 have hrounds:∀(m:Nat) (s:Int) (X:Nat->Prop) (W':World),J (m+1) s true X W'->T0 P (w.heap.size+1) s W' fun en W''=>(en= .returned (.bool true)/\∃q X,nx s=some q/\J m q.1 q.2.1 X W'')\/(en= .returned (.bool false)/\Jx W''):=by
  rintro m s X W' ⟨T,L',rfl,hi,hr,hl,hk⟩;refine⟨fn,a.tmps.setIfInBounds p0 (.int .i64 s),assign,body,by rw[run_yield hl (by rw[hrec];rfl)];simp only[hrec];rw[<-agT],?_⟩
  refine roundIn_of_wpIn (F:=WF none) trivial ?_
  let E1:En:={E with rd:=some (w.heap.size+1),nd:=true,kt:=fun t=>if t∈D then none else some (a.tmps.getD t undef),wk:=W'}
  have hget:∀t,(a.tmps.setIfInBounds p0 (.int .i64 s)).getD t undef=if t=p0 then .int .i64 s else a.tmps.getD t undef:=by
   intro t;exact ah4 (by rw[hr.size.1,hE];exact hp0)
  have hrel2:Rel E1 {T with env:=bJ T.env p0 (.int .i64 s)} {tmps:=a.tmps.setIfInBounds p0 (.int .i64 s),defers:=[]} W' L':=by
   refine hr.HW (some (w.heap.size+1)) true _ W' (fun _ _ hb _=>hb) (fun t=> ?_) (Marks.nil rfl) ⟨by simp only[Array.size_setIfInBounds];exact hr.size.1,fun t u hu=> ?_⟩ ⟨hr.fr.toFr,Cf.refl _⟩
   ·simp only;rw[hget t];simp only[bJ];split
    ·exact .int _ _
    ·exact hr.env t
   ·simp only at hu ⊢;rw[hget t];split at hu
    ·cases hu
    ·rename_i hnt;injection hu with hu
     rw[Qs (fun e:t=p0=>hnt (by rw[e];exact hD0)),hu]
  have hV:=hround m s T hi;have hw1:=hV E1 hE ⟨fun t ht=>Qr (hDa t ht),.inr hna⟩ _ W' L' hrel2
  refine wpIn_mono hw1 ?_;rintro en a1 w1 ⟨S1,L1,hr1,hq1⟩
  cases en with
  |exit i=>exact hq1.elim
  |goto i=>exact hq1.elim
  |ret=>exact hq1.elim
  |panic ch=>exact hq1.elim
  |outgrown=>exact hq1.elim
  |normal=>
   have hl1:w1.heap[w.heap.size+1]?=some (.loop (rec .ready none)):=hr1.fr.ko.same _ _ hl rfl;have hd1:a1.defers=[]:=hr1.defers.none rfl;refine⟨_,run_beginRound hl1 (by rw[hrec]),?_⟩
   generalize hw2:w1.putObj (w.heap.size+1) (.loop {rec .ready none with state:= .busy})=w2
   have hrec2:({rec .ready none with state:= .busy}:Loop)=rec .busy none:=by rw[hrec]
   rw[hrec2]at hw2;have hlt1:w.heap.size+1<w1.heap.size:=(Q8.1 hl1).1;have hl2:w2.heap[w.heap.size+1]?=some (.loop (rec .busy none)):=by rw[<-hw2];exact World.putObj_heap_same hlt1
   have hrel3:Rel {E with rd:=some (w.heap.size+1),nd:=true,kt:=fun t=>if t∈D then none else some (a.tmps.getD t undef),wk:=w2} S1 a1 w2 L1:=by
    refine hr1.HW (some (w.heap.size+1)) true _ w2 (by rw[<-hw2];exact Hw hl1 rfl _) (fun t=>hr1.env t) (Marks.nil hd1) hr1.size ⟨?_,Cf.refl _⟩
    rw[<-hw2];exact hr1.fr.toFr.putObj (by show E.w0.heap.size<=_;omega) _
   have hw3:=hq1 {E with rd:=some (w.heap.size+1),nd:=true,kt:=fun t=>if t∈D then none else some (a.tmps.getD t undef),wk:=w2} hE ⟨fun t ht=>Qr (hDb t ht),.inr hnb⟩ a1 w2 L1 hrel3
   refine wpIn_mono hw3 ?_;rintro en a3 w3 ⟨S3,L3,hr3,hq3⟩;have hl3:w3.heap[w.heap.size+1]?=some (.loop (rec .busy none)):=hr3.fr.ko.same _ _ hl2 rfl;have hlt3:w.heap.size+1<w3.heap.size:=(Q8.1 hl3).1
   have stay:∀(b:Nat) (o:Obj),b≠w.heap.size+1->W'.heap[b]?=some o->isC o=false->∀o',(w3.putObj (w.heap.size+1) o').heap[b]?=some o:=by
    intro b o hne hb ho o';rw[World.putObj_heap_other hne];refine hr3.fr.ko.same b o ?_ ho;rw[<-hw2,World.putObj_heap_other hne];exact hr1.fr.ko.same b o hb ho
   have back:∀o',Rel E (S3.uZ D) a (w3.putObj (w.heap.size+1) o') L3:=by
    intro o'
    have:=hr3.HW (w':=w3.putObj (w.heap.size+1) o') (a':=a) (env':=(S3.uZ D).env) E.rd E.nd E.kt E.wk (Hw hl3 rfl _) (fun t=>by
      show bm _ _ _ (if t∈D then .any else S3.env t) _
      split
      ·exact .any _
      ·rename_i hnt;have h4:=hr3.size.2 t (a.tmps.getD t undef) (Qs hnt);rw[<-h4];exact hr3.env t) ⟨hr.defers.none,hr.defers.nodup,fun d hd=>by
      obtain⟨Do,q1,q2,q3⟩:=hr.defers.at_ d hd
      obtain⟨Do',q4,_,q6⟩:=old d hd;have:Do=Do':=by rw[q1]at q4;injection q4 with q4;injection q4
      subst this
      exact⟨Do,q1,q2,stay Do _ (by omega) q3 rfl _⟩⟩ hr.size ⟨hr3.fr.toFr.putObj (by show E.w0.heap.size<=_;omega) _,⟨by rw[World.putObj_size];show E.wk.heap.size<=_;omega,fun b o hb ho=>stay b o (by have hb':b<E.wk.heap.size:=(Q8.1 hb).1;omega) (hr.fr.ko.same b o hb ho) ho _⟩⟩
    exact this
   have hk3:∀o',(w3.putObj (w.heap.size+1) o').heap[w.heap.size]?=some (.deferred (some [])):=fun o'=>stay _ _ (by omega) hk rfl o'
   have leave:∀j,Ze en=some j->Q en (S3.uZ D)->∃v w',(Instr.endRound (w.heap.size+1) (some j)).run P w3= .ok v w'/\((Ending.returned v= .returned (.bool true)/\∃q X,nx s=some q/\J m q.1 q.2.1 X w')\/(Ending.returned v= .returned (.bool false)/\Jx w')):=by
    intro j hj hq;refine⟨_,_,run_endRound (some j) hl3,.inr ⟨rfl,en,j,S3.uZ D,L3,hj,hq,back _,?_,hk3 _⟩⟩;rw[World.putObj_heap_same hlt3,hrec];rfl
   cases en with
   |normal=>
    obtain⟨S5,hw5,q5,hq5,hi5⟩:=hq3;obtain⟨L5,hr5⟩:=hw5 E a _ L3 (back _);refine⟨_,_,run_endRound none hl3,.inl ⟨rfl,q5,_,hq5,S5,L5,rfl,hi5,hr5,?_,hk3 _⟩⟩;rw[World.putObj_heap_same hlt3,hrec];rfl
   |ret=>exact leave _ rfl hq3
   |exit i=>exact leave _ rfl hq3
   |goto i=>exact leave _ rfl hq3
   |panic ch=>exact hq3.elim
   |outgrown=>exact hq3.elim
 have hcalls:=YR (P:=P) (l:=w.heap.size+1) hf hen hn J Jx
  (fun i s b X W ⟨T,L',hX,hi,hr,_,_⟩=>by subst hX;exact hr.Oa fun b hb=>hb)
  (fun i s b X W' W'' ⟨T,L',hX,hi,hr,hl,hk⟩ hfr=>⟨T,L',hX,hi,grow hr hfr,eu hfr hl,eu hfr hk⟩)
  (fun W' W'' ⟨en,j,T,L',h1,h2,hr,hl,hk⟩ hfr=>⟨en,j,T,L',h1,h2,grow hr hfr,eu hfr hl,eu hfr hk⟩) (fun W' ⟨en,j,T,L',h1,h2,hr,hl,hk⟩=>hr.gi)
  (fun s X W ⟨T,L',hX,hi,_⟩=>h00 s T hi) hrounds n0 W1 (X:=br E S0 L) ⟨S0,L,rfl,h0,hrel1,hL1,hK1⟩
 refine⟨w.heap.size+1,[{target:= .collected w.heap.size,args:=#[]}],W1,{target:= .fn (.func f) #[],args:=#[.func (.yield (w.heap.size+1)) #[] #[]]},W1,f,#[.func (.yield (w.heap.size+1)) #[] #[]],W1,?_,?_,fun _ _=>trivial,?_,(fun h=>by cases h),hcalls.mono ?_⟩
 ·rw[<-hW1,hrec];exact run_enterLoop_outer _ _ _ _ _
 ·have h2:(#[]++#[Operand.const (Value.func (Fn.yield (w.heap.size+1)) #[] #[])].map a.eval:Array Value)=#[.func (.yield (w.heap.size+1)) #[] #[]]:=by
   rw[Array.empty_append];simp[Act.eval]
  simp only[resolve,Act.eval,Deferred.ofValue];simp[Act.eval]at h2 ⊢
 ·have hen:Enters P f:=hf.enters;simp only[invoke];exact nH hen _
 ·rintro en W' ⟨⟨v,rfl⟩,hW'⟩
  have marks:∀{T:St} {L':Nat->Value} (o':Obj),Rel E T a W' L'->W'.heap[w.heap.size+1]?=some o'->SY o'=false->W'.heap[w.heap.size]?=some (.deferred (some []))->∀o'',Rel E T {a with defers:=[{target:= .collected w.heap.size,args:=#[]}]++a.defers} (W'.putObj (w.heap.size+1) o'') L':=by
   intro T L' o' hr hl ho hk o'';refine hr.HW (env':=T.env) E.rd E.nd E.kt E.wk (Hw hl ho _) (fun t=>hr.env t) ⟨(fun e=>by rw[hnd]at e;cases e),?_,fun d hd=> ?_⟩ hr.size ⟨hr.fr.toFr.putObj (by omega) _,adf hr.fr.ko (by omega) _⟩
   ·rw[List.singleton_append,List.nodup_cons];refine⟨fun hmem=> ?_,hr.defers.nodup⟩
    obtain⟨Do,q1,_,q3⟩:=old _ hmem;injection q1 with q1
    injection q1 with q1
    omega
   ·rcases Qz.1 hd with hd|hd
    ·rw[Q4.1 hd];exact⟨_,rfl,hE0,by rw[World.putObj_heap_other (by omega)];exact hk⟩
    ·obtain⟨Do,q1,q2,q3⟩:=hr.defers.at_ d hd
     obtain⟨Do',q4,_,q6⟩:=old d hd;have:Do=Do':=by rw[q1]at q4;injection q4 with q4;injection q4
     subst this;exact⟨Do,q1,q2,by rw[World.putObj_heap_other (by omega)];exact q3⟩
  rcases hW' with⟨m,s,X,T,L',_,hi,hr,hl,hk⟩|⟨en,j,T,L',hj,hq,hr,hl,hk⟩
  ·have hend1:=run_endLoop (P:=P) hl (by rw[hrec];intro e;cases e)
   exact⟨none,_,by rw[hend1,hrec],T,L',marks _ hr hl rfl hk _,hend m s T hi⟩
  ·have hend1:=run_endLoop (P:=P) hl (by rw[hrec];intro e;cases e)
   obtain⟨p,o',hp,hrun⟩:∃p o',p=some j/\(Instr.endLoop (w.heap.size+1)).run P W'= .ok p (W'.putObj (w.heap.size+1) o'):=⟨_,_,by rw[hrec],hend1⟩
   subst hp;have hfin:=marks _ hr hl rfl hk o';refine⟨some j,_,hrun,?_⟩
   cases en with
   |ret=>injection hj with hj;subst hj;exact wpIn_ret ⟨T,L',hfin,hq⟩
   |exit i=>injection hj with hj;subst hj;exact wpIn_exit ⟨T,L',hfin,hq⟩
   |goto i=>injection hj with hj;subst hj;exact wpIn_goto ⟨T,L',hfin,hq⟩
   |normal=>cases hj
   |panic ch=>cases hj
   |outgrown=>cases hj
theorem afU{nt:Nat}{p0:Nat}{x y:SC}{f fN:FuncId}{c:Int}{Q:Exit->St->Prop}(hf:nU P f 14 (EK fN c) [])(hen:Enters P fN){nx:Int->Option (Int×Bool×Unit)}(hn:∀s q,nx s=some q->M4 P fN false [] [.int .i64 s,.int .i64 c] (.dg [.int .i64 q.1,.bool q.2.1]) [])
  (I:Nat->Int->Bool->St->Prop) (n0:Nat)
  (h0:T1 (I n0 0 true) (S.uZ (SC.vp (.Gs (.oY (.bY f [])) [p0] x y)))) (h00:∀s T,I 0 s true T->False)
  (hround:∀m s T,I (m+1) s true T->VS P nt x (Nd (VS P nt y (aeR (SC.vp (.Gs (.oY (.bY f [])) [p0] x y)) (fun T=>∃q,nx s=some q/\I m q.1 q.2.1 T) Q)) (fun _ _=>False)) {T with env:=bJ T.env p0 (.int .i64 s)})
  (hend:∀m s T,I m s false T->Q .normal T):VS P nt (.Gs (.oY (.bY f [])) [p0] x y) Q S:=by
 intro cd hs hc;have hsets:=rM cd _ hc
 cases cd with
 |rangeFunc g ps assign body=>
  simp only[aM]at hc;split at hc
  ·rename_i g' x' y' hg hx hy;split at hc
   ·rename_i hcond;injection hc with hc
    injection hc with e1 e2 e3 e4
    subst e1 e3 e4;simp only[Qm]at hcond;obtain⟨⟨hn1,hn2⟩,hps⟩:=hcond
    have hps2:ps=#[p0]:=by
     have:=congrArg List.toArray e2;simpa using this
    subst hps2
    have hg2:g= .func f:=by
     cases g with
     |tmp t=>simp only[bd]at hg;injection hg with hg;cases hg
     |const v=>simp only[bd,Qb]at hg;obtain⟨z,hz,hg⟩:=hg;injection hg with hg;subst hg;cases v<;>simp only[xg]at hz<;>(try split at hz)<;>cases hz
     |global g=>simp[bd]at hg
     |func f=>simp only[bd]at hg;injection hg with hg;injection hg with hg;injection hg with hg;rw[hg]
    subst hg2;rw[<-hsets]at h0 hround;simp only[Qq69,List.all_nil,Bool.and_true,Qi]at hps;refine ag6 hf hen hn hn1 hn2 hps I n0 h0 h00 (fun m s T hi=> ?_) hend
    refine(hround m s T hi assign hs hx).mono ?_;intro en A hq
    cases en with
    |normal=>exact hq body hs hy
    |exit i=>exact hq
    |goto i=>exact hq
    |ret=>exact hq
    |panic ch=>exact hq
    |outgrown=>exact hq
   ·cases hc
  ·cases hc
 |region id ops d=>cases d<;>simp only[aM]at hc<;>(try split at hc)<;>(try split at hc)<;>(try split at hc)<;>cases hc
 |seq x y=>simp only[aM]at hc;split at hc<;>cases hc
 |cond c x y=>simp only[aM]at hc;split at hc<;>cases hc
 |block id c=>simp only[aM,Qb]at hc;obtain⟨_,_,hc⟩:=hc;cases hc
 |loop c=>simp only[aM,Qb]at hc;obtain⟨_,_,hc⟩:=hc;cases hc
 |_=>simp only[aM]at hc<;>cases hc
end
end
section
open Go.RowKit
def pZ{σ ρ:Type}(step:σ->Option (σ⊕ρ)):Nat->σ->Option ρ
 |0,_=>none
 |n+1,s=>match step s with
  |none=>none
  |some (.inr r)=>some r
  |some (.inl s')=>pZ step n s'
theorem E7{σ ρ:Type}{step:σ->Option (σ⊕ρ)}{r:ρ}:∀{n m:Nat} {s:σ},n<=m->pZ step n s=some r->pZ step m s=some r
 |0,_,_,_,h=>by cases h
 |n+1,0,_,hnm,_=>by omega
 |n+1,m+1,s,hnm,h=>by
  simp only[pZ]at h ⊢;split at h
  ·cases h
  ·exact h
  ·exact E7 (by omega) h
theorem Zf{σ ρ:Type}{step:σ->Option (σ⊕ρ)}{r r':ρ}{n m:Nat}{s:σ}(h:pZ step n s=some r)(h':pZ step m s=some r'):r=r':=by
 have h1:=E7 (Nat.le_max_left n m) h;have h2:=E7 (Nat.le_max_right n m) h';rw[h1]at h2;injection h2
open Classical in
 def ax{σ ρ:Type}(step:σ->Option (σ⊕ρ))(s:σ):Option ρ:=
 if h:∃r,∃n,pZ step n s=some r then some (Classical.choose h)else none
theorem Bc{σ ρ:Type}{step:σ->Option (σ⊕ρ)}{s:σ}{r:ρ}(h:ax step s=some r):∃n,pZ step n s=some r:=by
 unfold ax at h;split at h
 ·rename_i hx;injection h with h
  obtain⟨n,hn⟩:=Classical.choose_spec hx;exact⟨n,by rw[hn,h]⟩
 ·cases h
theorem J2{σ ρ:Type}{step:σ->Option (σ⊕ρ)}{s:σ}{r:ρ}{n:Nat}(h:pZ step n s=some r):ax step s=some r:=by
 unfold ax;have hx:∃r,∃n,pZ step n s=some r:=⟨r,n,h⟩;rw[dif_pos hx];obtain⟨m,hm⟩:=Classical.choose_spec hx;rw[Zf hm h]
theorem jJ{σ ρ:Type}(step:σ->Option (σ⊕ρ))(s:σ):ax step s=match step s with|none=>none|some (.inr r)=>some r|some (.inl s')=>ax step s':=by
 cases hs:step s with
 |none=>
  cases h:ax step s with
  |none=>rfl
  |some r=>
   obtain⟨n,hn⟩:=Bc h
   cases n with
   |zero=>cases hn
   |succ n=>simp[pZ,hs]at hn
 |some x=>
  cases x with
  |inr r=>exact J2 (n:=1) (by simp[pZ,hs])
  |inl s'=>
   simp only
   cases h':ax step s' with
   |some r=>
    obtain⟨n,hn⟩:=Bc h';exact J2 (n:=n+1) (by simp only[pZ,hs];exact hn)
   |none=>
    cases h:ax step s with
    |none=>rfl
    |some r=>
     obtain⟨n,hn⟩:=Bc h
     cases n with
     |zero=>cases hn
     |succ n=>simp only[pZ,hs]at hn;rw[J2 hn]at h';cases h'
open Classical in
 def both{ρ:Type}(x y:Option ρ):Option ρ:=if x=y then x else none
theorem ZJ{ρ:Type}{x y:Option ρ}{r:ρ}(h:both x y=some r):x=some r/\y=some r:=by
 unfold both at h;split at h
 ·rename_i e;exact⟨h,e▸h⟩
 ·cases h
@[simp] theorem ahC {ρ:Type} (x:Option ρ):both x x=x:=Qr rfl
def bb{σ ρ:Type}(j:σ->Option ρ)(f:(σ->Option ρ)->Option ρ):Option ρ:=f j
def EL{σ ρ:Type}(step:Int->σ->Option (σ⊕ρ))(fin:σ->Option ρ)(nx:Int->Option (Int×Bool×Unit)):Nat->Int->Bool->σ->Option ρ
 |0,_,b,v=>bif b then none else fin v
 |n+1,s,b,v=>bif b then(match step s v with
   |none=>none
   |some (.inr r)=>some r
   |some (.inl v')=>(nx s).bind fun q=>EL step fin nx n q.1 q.2.1 v')
  else fin v
section
variable {U : TU}
inductive SA (U:TU) where
 |skip
 |xu (rs:RS U)
 |qP (un:List (Nat×Nat)) (rs:RS U)
 |seq (x y:SA U)
 |join (J:JS U) (x y:SA U)
 |cond (c:bn) (x y:SA U)
 |block (id:Nat) (x:SA U)
 |loop (J:JS U) (x:SA U)
 |Ya (n:Nat) (x:SA U)
 |ord (J:JS U) (f p0:Nat) (x y:SA U)
 |exit (id:Nat)
 |ret
 |ps (p:Ps U) (x:SA U)
 |DP (p:Ps U) (x:SA U)
def SA.erase:SA U->SC
 | .skip=> .skip
 | .xu rs=> .xu rs.flat
 | .qP un rs=> .qP un rs.flat
 | .seq x y=> .seq x.erase y.erase
 | .join _ x y=> .seq x.erase y.erase
 | .cond c x y=> .cond c x.erase y.erase
 | .block id x=> .block id x.erase
 | .loop _ x=> .loop x.erase
 | .Ya _ x=> .loop x.erase
 | .ord _ f p0 x y=> .Gs (.oY (.bY f [])) [p0] x.erase y.erase
 | .exit id=> .exit id
 | .ret=> .ret
 | .ps _ x=>x.erase
 | .DP _ x=>x.erase
def SA.dO:SA U->Bool
 | .xu rs=>rs.dO
 | .qP _ rs=>rs.dO
 | .seq x y=>x.dO&&y.dO
 | .join _ x y=>x.dO&&y.dO
 | .cond c x y=>c.dO&&x.dO&&y.dO
 | .block _ x=>x.dO
 | .loop _ x=>x.dO
 | .Ya _ x=>x.dO
 | .ord _ _ _ x y=>x.dO&&y.dO
 | .ps _ x=>x.dO
 | .DP _ x=>x.dO
 |_=>true
variable (K : TK U)
def CA(Γ:List (eJ U)){ρ:Type}(W:WS)(base:Nat):RS U->(i:Nat)->(S:aZ U)->(k:aZ U->List vC->Option ρ)->Option ρ
 | .nil,_,S,k=>k S []
 | .op o r,i,S,k=>Xn K Γ W (base+i) S o fun x wr=>CA Γ W base r (i+1) (S.cY o.d x wr) fun S' fs=>k S' (⟨o.d,o.bR,D7 (base+i) S.st o,wr.map (·.1)⟩::fs)
 | .AN t r,i,S,k=>(match S.env t with
  | .bool b=>bif b then CA Γ W base r i (S.cY (some t) (.bool true) none) k else CA Γ W base r i (S.cY (some t) (.bool false) none) k
  | .undef=>CA Γ W base r i S k
  |_=>none)
 |_,_,_,_=>none
def GH(F:List Nat)(ds:List Nat):Bool:=ds.all fun t=> !ig t F
def aZ.more(S:aZ U)(n:Nat):aZ U:={env:=S.env,H:=S.H,N:=S.N+n}
def aZ.fJ(S:aZ U)(D:List Nat):aZ U:={env:=fun t=>(match ig t D with|true=> .any|false=>S.env t),H:=S.H,N:=S.N}
def Rh{ρ:Type}(f:(aZ U->Option ρ)->aZ U->Option ρ):Nat->aZ U->Option ρ
 |0,_=>none
 |n+1,S=>f (Rh f n) S
 def pV(Γ:List (eJ U)):SA U->{ρ:Type}->(F:List Nat)->(W:WS)->(k:Exit->aZ U->Option ρ)->(S:aZ U)->Option ρ
 | .skip,_,_,_,k,S=>k .normal S
 | .xu rs,_,F,W,k,S=>(match GH F rs.gu with
  |true=>iU K Γ rs W S.N (S.more rs.len) fun S'=>k .normal S'
  |false=>none)
 | .qP un rs,_,F,W,k,S=>(match GH F rs.gu with
  |true=>CA K Γ W S.N rs 0 (S.more rs.len) fun S' fs=>(match un.all (fun p=>match fs[p.1]?,fs[p.2]? with|some a,some b=>BX a b|_,_=>false)with
   |true=>k .normal S'
   |false=>none)
  |false=>none)
 | .seq x y,_,F,W,k,S=>pV Γ x F W (fun e S'=>match e with
  | .normal=>pV Γ y F W k S'
  |e=>k e S') S
 | .join J x y,_,F,W,k,S=>(match uj S J F W with
  |true=>bb (fun v=>pV Γ y F W k (unpack K S J v)) fun j=>pV Γ x J.eu (some (S.N,fb J.items)) (fun e S'=>match e with
   | .normal=>(match pack K S' J.items with|some v=>j v|none=>none)
   |e=>k e S') S
  |false=>none)
 | .cond c x y,_,F,W,k,S=>(match c.cF S with
  | .bool b=>bif b then pV Γ x F W k S else pV Γ y F W k S
  | .fW=>both (pV Γ x F W k S) (pV Γ y F W k S)
  |_=>none)
 | .block id x,_,F,W,k,S=>pV Γ x F W (fun e S'=>match e with
  | .exit i=>(match Nat.beq i id with|true=>k .normal S'|false=>k (.exit i) S')
  |e=>k e S') S
 | .loop J x,_,F,W,k,S=>(match uj S J F W with
  |true=>(match pack K S J.items with
   |some v0=>ax (fun v=>pV Γ x J.eu (some (S.N,fb J.items)) (fun e S'=>match e with
    | .normal=>(match pack K S' J.items with|some v=>some (Sum.inl v)|none=>none)
    |e=>(k e S').map Sum.inr) (unpack K S J v)) v0
   |none=>none)
  |false=>none)
 | .Ya n x,_,F,W,k,S=>Rh (fun ih S=>pV Γ x F W (fun e S'=>match e with| .normal=>ih S'|e=>k e S') S) n S
 | .ord J f p0 x y,_,F,W,k,S=>
  let D:=SC.vp (.Gs (.oY (.bY f [])) [p0] x.erase y.erase)
  (match Hf f Γ with
  |some nx=>(match GH J.eu D&&GH F D&&uj (S.fJ D) J F W with
   |true=>(match pack K (S.fJ D) J.items with
    |some v0=>EL (fun m v=>pV Γ x J.eu (some (S.N,fb J.items)) (fun e S1=>match e with
     | .normal=>pV Γ y J.eu (some (S.N,fb J.items)) (fun e S'=>match e with
      | .normal=>(match pack K (S'.fJ D) J.items with|some v=>some (Sum.inl v)|none=>none)
      | .ret=>(k .ret (S'.fJ D)).map Sum.inr
      | .exit i=>(k (.exit i) (S'.fJ D)).map Sum.inr
      |_=>none) S1
     |_=>none) {(unpack K (S.fJ D) J v)with env:=fu (unpack K (S.fJ D) J v).env p0 (.int .i64 m)}) (fun v=>k .normal (unpack K (S.fJ D) J v)) nx 12000 0 true v0
    |none=>none)
   |false=>none)
  |none=>none)
 | .exit id,_,_,_,k,S=>k (.exit id) S
 | .ret,_,_,_,k,S=>k .ret S
 | .ps p x,_,F,W,k,S=>(match(p.EP S).all (okW W)&&GH F p.tmps with
  |true=>(match p.run S with|some S'=>pV Γ x F W k S'|none=>none)
  |false=>none)
 | .DP p x,_,F,W,k,S=>pV Γ x F W (fun e S'=>match e with
  | .normal=>(match(p.EP S').all (okW W)&&GH F p.tmps with
   |true=>(match p.run S' with|some S1=>k .normal S1|none=>none)
   |false=>none)
  |e=>k e S') S
structure jb (F:List Nat) (W:WS) (S S':aZ U):Prop where
 env:∀t∈F,S'.env t=S.env t
 H:∀id,okW W id=false->S'.H id=S.H id
 N:S.N<=S'.N
theorem jb.refl(F:List Nat)(W:WS)(S:aZ U):jb F W S S:=⟨fun _ _=>rfl,fun _ _=>rfl,QI _⟩
theorem jb.trans{F:List Nat}{W:WS}{S S' S'':aZ U}(h:jb F W S S')(h':jb F W S' S''):jb F W S S'':=
 ⟨fun t ht=>(h'.env t ht).trans (h.env t ht),fun id hid=>(h'.H id hid).trans (h.H id hid),QK h.N h'.N⟩
theorem Ay.toC{D F:List Nat}{W:WS}{S S':aZ U}(h:Ay D W S S')(ho:GH F D=true):jb F W S S':=
 ⟨fun t ht=>h.env t (fun hd=>by have h1:=QH.1 ho t hd;rw[fo.2 ht]at h1;cases h1),h.H,h.N⟩
theorem jb.more{F:List Nat}{W:WS}{S S':aZ U}{n:Nat}(h:jb F W (S.more n) S'):jb F W S S':=
 ⟨h.env,h.H,QK (Nat.le_add_right _ _) h.N⟩
variable {K}
variable {P : Program} {nt : Nat}
theorem VW{sc:SC}{Q:Exit->St->Prop}{S S':St}(hw:∀(E:En) (a:Act) (w:World) (L:Nat->Value),Rel E S a w L->∃L',Rel E S' a w L')(h:VS P nt sc Q S'):VS P nt sc Q S:=
 fun c hs hc E hE hk a w L hr=>by
  obtain⟨L',h'⟩:=hw E a w L hr;exact h c hs hc E hE hk a w L' h'
theorem aeq{sc:SC}{Q Q':Exit->St->Prop}{S:St}(h:VS P nt sc Q' S)(hq:∀e A,Q' e A->∃A',Q e A'/\∀(E:En) (a:Act) (w:World) (L:Nat->Value),Rel E A a w L->∃L',Rel E A' a w L'):VS P nt sc Q S:=
 fun c hs hc E hE hk a w L hr=>wpIn_mono (h c hs hc E hE hk a w L hr) fun _ _ _ ⟨S',L',h1,h2⟩=>by
  obtain⟨A',h3,h4⟩:=hq _ _ h2;obtain⟨L'',h5⟩:=h4 _ _ _ _ h1;exact⟨A',L'',h5,h3⟩
theorem aep{Γ:List (eJ U)}(hΓ:vH P Γ){rs:RS U}{W:WS}{ρ:Type}{k:aZ U->Option ρ}{r:ρ}{S:aZ U}(hok:rs.dO=true)(hr:iU K Γ rs W S.N (S.more rs.len) k=some r){Q:Exit->St->Prop}
  (h:∀S',Ay rs.gu W (S.more rs.len) S'->k S'=some r->Q .normal S'.st):VS P nt (.xu rs.flat) Q S.st:=by
 intro c hs hc
 cases c with
 |region id ops d=>
  cases d with
  |true=>simp only[aM]at hc;(try split at hc)<;>(try split at hc)<;>(try split at hc)<;>cases hc
  |false=>
   simp only[aM]at hc;split at hc
   ·rename_i gs' hgs;split at hc
    ·rename_i hd;injection hc with hc
     injection hc with hc
     subst hc;intro E hE hk a w L hrel;refine wpIn_region_list ?_;have h0:Rel E (S.more rs.len).st a w L:=hrel.room rs.len;have:=lK (K:=K) (E:=E) hΓ (ops:=ops) (Q:=fun e a' w'=>∃S' L',Rel E S' a' w' L'/\Q e S') rs W S.N (S.more rs.len) k r ops.toList [] a w L hok hgs h0 (QI _) (ZI hE hk (Tt hd)) hr (fun S' a' w' L' hf h' hk'=>⟨S'.st,L',h',h S' hf hk'⟩)
     simpa using this
    ·cases hc
   ·cases hc
 |seq x y=>simp only[aM]at hc;split at hc<;>cases hc
 |cond c x y=>simp only[aM]at hc;split at hc<;>cases hc
 |block id c=>simp only[aM,Qb]at hc;obtain⟨_,_,hc⟩:=hc;cases hc
 |loop c=>simp only[aM,Qb]at hc;obtain⟨_,_,hc⟩:=hc;cases hc
 |rangeFunc g ps x y=>simp only[aM]at hc;(try split at hc)<;>(try split at hc)<;>cases hc
 |_=>simp only[aM]at hc<;>cases hc
theorem K9{Γs Γs':Nat->mR}{base:Nat}:∀(l:List (Nat×SG)) (S:St),(∀p∈l,Γs p.1=Γs' p.1)->nI Γs base l S=nI Γs' base l S
 |[],_,_=>rfl
 |(i,g)::l,S,h=>by
  simp only[nI,h (i,g) (by simp)]
  split
  ·rfl
  ·rename_i p hp;rw[K9 l _ fun q hq=>h q (Qy _ hq)]
theorem vN{Γ:List (eJ U)}(hΓ:vH P Γ){W:WS}{base:Nat}{ρ:Type}{r:ρ}:∀(rs:RS U) (i:Nat) (S:aZ U) (k:aZ U->List vC->Option ρ),rs.dO=true->CA K Γ W base rs i S k=some r->
  ∃(Γs:Nat->mR) (S':aZ U) (fs:List vC),(∀j,lR P (Γs j))/\nI Γs base ((rs.flat.zipIdx i).map fun p=>(p.2,p.1)) S.st=some (S'.st,fs)/\Ay rs.gu W S S'/\k S' fs=some r
 | .nil,i,S,k,_,h=>⟨fun _ _=>none,S,[],fun _=>WJ,rfl,Ay.refl _ _ _,h⟩
 | .op o rs,i,S,k,hok,h=>by
  simp only[RS.dO,Qm]at hok;simp only[CA]at h;obtain⟨Γ',x,wr,h1,h2,h3,h4⟩:=MJ hΓ hok.1 h;obtain⟨Γs,S',fs,h5,h6,h7,h8⟩:=vN hΓ rs (i+1) _ _ hok.2 h4;refine⟨fun j=>if j=i then Γ' else Γs j,S',_,fun j=> ?_,?_,?_,h8⟩
  ·simp only;split
   ·exact h1
   ·exact h5 j
  ·simp only[RS.flat,List.zipIdx_cons,QD,nI,Qt,h2]
   have:nI (fun j=>if j=i then Γ' else Γs j) base ((rs.flat.zipIdx (i+1)).map fun p=>(p.2,p.1)) (S.st.cY o.d x.pv (wr.map jm))=some (S'.st,fs):=by
    rw[<-Aa,<-h6];refine K9 _ _ fun p hp=> ?_
    obtain⟨q,hq,rfl⟩:=QP.1 hp;have:=List.mem_zipIdx hq;simp only;rw[Qs (by omega)]
   rw[this];simp only[Dq]
   cases wr with
   |none=>rfl
   |some p=>rfl
  ·refine(Eh S W o.d x wr h3).trans h7 fun t ht=> ?_
   simp only[RS.gu]at ht
   cases hdd:o.d with
   |none=>rw[hdd]at ht;exact⟨by simp,ht⟩
   |some d=>rw[hdd]at ht;simp only[QA,not_or]at ht;exact⟨by simpa using fun e=>ht.1 e,ht.2⟩
 | .AN t rs,i,S,k,hok,h=>by
  simp only[CA]at h;split at h
  ·rename_i b hb
   cases b with
   |true=>rw[Qk,B9 hb]at h;exact vN hΓ rs i S k hok h
   |false=>rw[Ql,B9 hb]at h;exact vN hΓ rs i S k hok h
  ·exact vN hΓ rs i S k hok h
  ·cases h
 | .ps _ _,_,_,_,_,h=>by cases h
 | .ite _ _ _ _ _ _ _ _,_,_,_,_,h=>by cases h
 | .two _ _ _ _ _,_,_,_,_,h=>by cases h
 | .pr _ _ _ _ _ _,_,_,_,_,h=>by cases h
theorem aem{c:Code}{Q:Exit->St->Prop}{S:St}(I:Nat->St->Prop)(m0:Nat){S0:St}(hw0:∀(E:En) (a:Act) (w:World) (L:Nat->Value),Rel E S a w L->∃L',Rel E S0 a w L')(h0:I m0 S0)
  (hr:∀m S,I m S->V P nt c (fun e S'=>match e with| .normal=>∃m',m'<m/\∃S'',(∀(E:En) (a:Act) (w:World) (L:Nat->Value),Rel E S' a w L->∃L',Rel E S'' a w L')/\I m' S''|e=>Q e S') S):V P nt (.loop c) Q S:=fun E hE hk a w L hrel=>by
 refine wpIn_loop_ghost (fun m a w=>∃S L,I m S/\Rel E S a w L) m0 ?_ ?_
 ·obtain⟨L',h'⟩:=hw0 E a w L hrel;exact⟨S0,L',h0,h'⟩
 rintro m a w ⟨S1,L1,hI,h1⟩;refine wpIn_mono (hr m S1 hI E hE hk a w L1 h1) ?_;rintro e a' w' ⟨S',L',h2,h3⟩
 cases e with
 |normal=>
  obtain⟨m',hlt,S'',hw,hI'⟩:=h3;obtain⟨L'',h4⟩:=hw E a' w' L' h2;exact⟨m',hlt,S'',L'',hI',h4⟩
 |exit i=>exact⟨S',L',h2,h3⟩
 |goto l=>exact⟨S',L',h2,h3⟩
 |ret=>exact⟨S',L',h2,h3⟩
 |panic c=>exact⟨S',L',h2,h3⟩
 |outgrown=>exact⟨S',L',h2,h3⟩
theorem T5{x:SC}{Q:Exit->St->Prop}{S:St}(I:Nat->St->Prop)(m0:Nat){S0:St}(hw0:∀(E:En) (a:Act) (w:World) (L:Nat->Value),Rel E S a w L->∃L',Rel E S0 a w L')(h0:I m0 S0)
  (hr:∀m S,I m S->VS P nt x (fun e S'=>match e with| .normal=>∃m',m'<m/\∃S'',(∀(E:En) (a:Act) (w:World) (L:Nat->Value),Rel E S' a w L->∃L',Rel E S'' a w L')/\I m' S''|e=>Q e S') S):VS P nt (.loop x) Q S:=by
 intro c hs hc
 cases c with
 |loop p=>
  simp only[aM,Qb]at hc;obtain⟨x',hx,hc⟩:=hc;injection hc with h1
  subst h1;exact aem I m0 hw0 h0 (fun m S hI=>hr m S hI p hs hx)
 |region id ops d=>cases d<;>simp only[aM]at hc<;>(try split at hc)<;>(try split at hc)<;>(try split at hc)<;>cases hc
 |seq x y=>simp only[aM]at hc;split at hc<;>cases hc
 |cond c x y=>simp only[aM]at hc;split at hc<;>cases hc
 |block id c=>simp only[aM,Qb]at hc;obtain⟨_,_,hc⟩:=hc;cases hc
 |rangeFunc g ps x y=>simp only[aM]at hc;(try split at hc)<;>(try split at hc)<;>cases hc
 |_=>simp only[aM]at hc<;>cases hc
theorem JX{S:aZ U}{J:JS U}{F:List Nat}{W:WS}(hchk:uj S J F W=true)(v:rP J.items):jb F W S (unpack K S J v):=by
 simp only[uj,Qm,QH]at hchk;obtain⟨⟨⟨⟨⟨⟨hnd,hids⟩,hokv⟩,hkeep⟩,hobj⟩,hF⟩,hW⟩:=hchk;refine⟨fun t ht=> ?_,fun id hid=> ?_,?_⟩
 ·have hk:=fo.1 (hF t ht);have hns:ig t (slotsOf J.items)=false:=by simpa using(hkeep t hk).2
  rcases Ac (K:=K) (S.base J.eu) J.items v t with⟨⟨i,d⟩,hmem,h1,h2⟩|⟨_,h2⟩
  ·exact absurd (CF (kh hmem) h1) (pJ hns)
  ·rw[show(unpack K S J v).env t=_ from h2,Fp,Qr hk]
 ·have hlt:id<S.N:=by
   cases W with
   |none=>cases hW
   |some q=>
    obtain⟨n,l⟩:=q;simp only at hW;simp only[okW,Qq73]at hid;have h1:=QG hW;have h2:¬n<=id:=fun hle=>by rw[Nat.ble_eq_true_of_le hle]at hid;cases hid.1
    omega
  rcases DO (K:=K) (S.base J.eu) J.items v id hnd with⟨⟨i,d⟩,hmem,h1,h2⟩|⟨_,h2⟩
  ·have:=(hids id (uQ (kh hmem) h1)).2;rw[hid]at this;cases this
  ·rw[show(unpack K S J v).H id=_ from h2,MW,Qr hlt]
 ·rw[unpack,DN,MV];exact QI _
theorem GJ{S S1:aZ U}{J:JS U}{F:List Nat}{W:WS}(hchk:uj S J F W=true){v:rP J.items}(hp:pack K S1 J.items=some v)(hf:jb J.eu (some (S.N,fb J.items)) S S1):
  ∀(E:En) (a:Act) (w:World) (L:Nat->Value),Rel E S1.st a w L->∃L',Rel E (unpack K S J v).st a w L':=by
 intro E a w L h;refine⟨L,Rel.meet hchk hp hf.env (fun id hid hni=>hf.H id ?_) hf.N h⟩
 simp only[okW,Qq73];refine⟨?_,?_⟩
 ·cases hb:Nat.ble S.N id with
  |false=>rfl
  |true=>have:=QG hb;omega
 ·cases hb:ig id (fb J.items)with
  |false=>rfl
  |true=>exact absurd (fo.1 hb) hni
theorem Es(S:aZ U)(D:List Nat):(S.fJ D).st=S.st.uZ D:=by
 unfold aZ.fJ aZ.st St.uZ;congr 1
 funext t
 simp only
 by_cases h:t∈D
 ·rw[Qr h,fo.2 h];rfl
 ·rw[Qs h]
  cases hb:ig t D with
  |true=>exact absurd (fo.1 hb) h
  |false=>rfl
theorem Ky{F D:List Nat}(h:GH F D=true)(W:WS)(S:aZ U):jb F W S (S.fJ D):=
 ⟨fun t ht=>by
  have hn:ig t D=false:=by
   cases hb:ig t D with
   |false=>rfl
   |true=>
    have:=QH.1 h t (fo.1 hb);rw[fo.2 ht]at this;cases this
  simp only[aZ.fJ,hn],fun _ _=>rfl,QI _⟩
theorem Sh{S:aZ U}{J:JS U}{F:List Nat}{W:WS}(hchk:uj S J F W=true)(v:rP J.items){S':aZ U}(hf:jb J.eu (some (S.N,fb J.items)) (unpack K S J v) S'):jb F W S S':=by
 have hm:=JX (K:=K) hchk v;refine hm.trans ?_;simp only[uj,Qm,QH]at hchk;obtain⟨⟨⟨⟨⟨⟨hnd,hids⟩,hokv⟩,hkeep⟩,hobj⟩,hF⟩,hW⟩:=hchk;refine⟨fun t ht=>hf.env t (fo.1 (hF t ht)),fun id hid=>hf.H id ?_,hf.N⟩
 simp only[okW,Qq73];refine⟨?_,?_⟩
 ·cases W with
  |none=>cases hW
  |some q=>
   obtain⟨n,l⟩:=q;simp only at hW;simp only[okW,Qq73]at hid;have h1:=QG hW
   cases hb:Nat.ble S.N id with
   |false=>rfl
   |true=>have:=QG hb;rw[Nat.ble_eq_true_of_le (QK h1 this)]at hid;cases hid.1
 ·cases hb:ig id (fb J.items)with
  |false=>rfl
  |true=>have:=(hids id (fo.1 hb)).2;rw[hid]at this;cases this
theorem Y7{S:aZ U}{J:JS U}{F:List Nat}{W:WS}(hchk:uj S J F W=true)(v:rP J.items){t:Nat}(ht:t∈J.eu):(unpack K S J v).env t=S.env t:=by
 simp only[uj,Qm,QH]at hchk;obtain⟨⟨⟨⟨⟨⟨hnd,hids⟩,hokv⟩,hkeep⟩,hobj⟩,hF⟩,hW⟩:=hchk;have hns:ig t (slotsOf J.items)=false:=by simpa using(hkeep t ht).2
 rcases Ac (K:=K) (S.base J.eu) J.items v t with⟨⟨i,d⟩,hmem,h1,h2⟩|⟨_,h2⟩
 ·exact absurd (CF (kh hmem) h1) (pJ hns)
 ·rw[show(unpack K S J v).env t=_ from h2,Fp,Qr ht]
theorem Y6{S:aZ U}{J:JS U}{F:List Nat}{W:WS}(hchk:uj S J F W=true)(v:rP J.items){S':aZ U}(hf:jb J.eu (some (S.N,fb J.items)) (unpack K S J v) S'){v':rP J.items}(hv':pack K S' J.items=some v'):
  ∀(E:En) (a:Act) (w:World) (L:Nat->Value),Rel E S'.st a w L->∃L',Rel E (unpack K S J v').st a w L':=by
 intro E a w L hrel;have hkp:=fun{t} ht=>Y7 (K:=K) hchk v (t:=t) ht
 have hc:=hchk;simp only[uj,Qm,QH]at hc;obtain⟨⟨⟨⟨⟨⟨hnd,hids⟩,hokv⟩,hkeep⟩,hobj⟩,hF⟩,hW⟩:=hc;refine⟨L,Rel.meet hchk hv' (fun t ht=>(hf.env t ht).trans (hkp ht)) (fun id hid hni=>(hf.H id ?_).trans ?_) (by have:=hf.N;rw[unpack,DN,MV]at this;exact this) hrel⟩
 ·simp only[okW,Qq73];refine⟨?_,?_⟩
  ·cases hb:Nat.ble S.N id with
   |false=>rfl
   |true=>have:=QG hb;omega
  ·cases hb:ig id (fb J.items)with
   |false=>rfl
   |true=>exact absurd (fo.1 hb) hni
 ·rcases DO (K:=K) (S.base J.eu) J.items v id hnd with⟨⟨i,d⟩,hmem,h1,h2⟩|⟨_,h2⟩
  ·exact absurd (uQ (kh hmem) h1) hni
  ·rw[show(unpack K S J v).H id=_ from h2,MW,Qr hid]
theorem fA{Γ:List (eJ U)}(hΓ:vH P Γ):∀(sa:SA U) {ρ:Type} (F:List Nat) (W:WS) (k:Exit->aZ U->Option ρ) (S:aZ U) (r:ρ),sa.dO=true->pV K Γ sa F W k S=some r->
  VS P nt sa.erase (fun e A=>∃S',A=S'.st/\jb F W S S'/\k e S'=some r) S.st
 | .skip,ρ,F,W,k,S,r,hok,h=>aeo ⟨S,rfl,jb.refl _ _ _,h⟩
 | .exit id,ρ,F,W,k,S,r,hok,h=>aer ⟨S,rfl,jb.refl _ _ _,h⟩
 | .ret,ρ,F,W,k,S,r,hok,h=>afT ⟨S,rfl,jb.refl _ _ _,h⟩
 | .xu rs,ρ,F,W,k,S,r,hok,h=>by
  simp only[pV]at h;split at h
  ·rename_i ho;exact aep hΓ hok h fun S' hf hk=>⟨S',rfl,(hf.toC ho).more,hk⟩
  ·cases h
 | .qP un rs,ρ,F,W,k,S,r,hok,h=>by
  simp only[pV]at h;split at h
  ·rename_i ho;obtain⟨Γs,S',fs,h1,h2,h3,h4⟩:=vN hΓ rs 0 _ _ hok h;split at h4
   ·rename_i hun;refine afV h1 (S':=S'.st) ?_ ⟨S',rfl,(h3.toC ho).more,h4⟩;rw[RS.ua];have e:({S.st with N:=S.st.N+rs.len}:St)=(S.more rs.len).st:=rfl
    rw[e,Nj];rw[show S.st.N=S.N from rfl,h2]
    exact Qr hun
   ·cases h4
  ·cases h
 | .seq x y,ρ,F,W,k,S,r,hok,h=>by
  simp only[SA.dO,Qm]at hok;refine ZV ((fA hΓ x F W _ S r hok.1 h).mono ?_);rintro e A ⟨S',rfl,hf,hk⟩
  cases e with
  |normal=>exact(fA hΓ y F W k S' r hok.2 hk).mono fun e A ⟨S'',h1,h2,h3⟩=>⟨S'',h1,hf.trans h2,h3⟩
  |exit i=>exact⟨S',rfl,hf,hk⟩
  |goto l=>exact⟨S',rfl,hf,hk⟩
  |ret=>exact⟨S',rfl,hf,hk⟩
  |panic c=>exact⟨S',rfl,hf,hk⟩
  |outgrown=>exact⟨S',rfl,hf,hk⟩
 | .join J x y,ρ,F,W,k,S,r,hok,h=>by
  simp only[SA.dO,Qm]at hok;simp only[pV]at h;split at h
  ·rename_i hchk;unfold bb at h
   have hsub:∀S',jb J.eu (some (S.N,fb J.items)) S S'->jb F W S S':=by
    intro S' hf;simp only[uj,Qm,QH]at hchk;obtain⟨⟨⟨⟨⟨⟨hnd,hids⟩,hokv⟩,hkeep⟩,hobj⟩,hF⟩,hW⟩:=hchk;refine⟨fun t ht=>hf.env t (fo.1 (hF t ht)),fun id hid=>hf.H id ?_,hf.N⟩
    simp only[okW,Qq73];refine⟨?_,?_⟩
    ·cases W with
     |none=>cases hW
     |some q=>
      obtain⟨n,l⟩:=q;simp only at hW;simp only[okW,Qq73]at hid;have h1:=QG hW
      cases hb:Nat.ble S.N id with
      |false=>rfl
      |true=>have:=QG hb;rw[Nat.ble_eq_true_of_le (QK h1 this)]at hid;cases hid.1
    ·cases hb:ig id (fb J.items)with
     |false=>rfl
     |true=>have:=(hids id (fo.1 hb)).2;rw[hid]at this;cases this
   refine ZV ((fA hΓ x J.eu _ _ S r hok.1 h).mono ?_);rintro e A ⟨S',rfl,hf,hk⟩
   cases e with
   |normal=>
    simp only at hk;split at hk
    ·rename_i v hv;refine VW (GJ hchk hv hf) ?_;exact(fA hΓ y F W k _ r hok.2 hk).mono fun e A ⟨S'',h1,h2,h3⟩=>⟨S'',h1,(JX hchk v).trans h2,h3⟩
    ·cases hk
   |exit i=>exact⟨S',rfl,hsub S' hf,hk⟩
   |goto l=>exact⟨S',rfl,hsub S' hf,hk⟩
   |ret=>exact⟨S',rfl,hsub S' hf,hk⟩
   |panic c=>exact⟨S',rfl,hsub S' hf,hk⟩
   |outgrown=>exact⟨S',rfl,hsub S' hf,hk⟩
  ·cases h
 | .cond c x y,ρ,F,W,k,S,r,hok,h=>by
  simp only[SA.dO,Qm]at hok;simp only[pV]at h;split at h
  ·rename_i b hb;have hv:c.val S.st= .bool b:=by rw[qJ hok.1.1,hb];rfl
   refine aes hv ?_
   cases b with
   |true=>exact fA hΓ x F W k S r hok.1.2 h
   |false=>exact fA hΓ y F W k S r hok.2 h
  ·rename_i hb;have hv:c.val S.st= .fW:=by rw[qJ hok.1.1,hb];rfl
   obtain⟨h1,h2⟩:=ZJ h;exact abu hv (fA hΓ x F W k S r hok.1.2 h1) (fA hΓ y F W k S r hok.2 h2)
  ·cases h
 | .block id x,ρ,F,W,k,S,r,hok,h=>by
  refine abv ((fA hΓ x F W _ S r hok h).mono ?_);rintro e A ⟨S',rfl,hf,hk⟩
  cases e with
  |exit i=>
   simp only at hk;simp only[Ef];split at hk
   ·rename_i hi;rw[Qr (QF hi)];exact⟨S',rfl,hf,hk⟩
   ·rename_i hi;rw[Qs (Nat.ne_of_beq_eq_false hi)];exact⟨S',rfl,hf,hk⟩
  |normal=>exact⟨S',rfl,hf,hk⟩
  |goto l=>exact⟨S',rfl,hf,hk⟩
  |ret=>exact⟨S',rfl,hf,hk⟩
  |panic c=>exact⟨S',rfl,hf,hk⟩
  |outgrown=>exact⟨S',rfl,hf,hk⟩
 | .loop J x,ρ,F,W,k,S,r,hok,h=>by
  simp only[pV]at h;split at h
  ·rename_i hchk;split at h
   ·rename_i v0 hv0
    have hsub:∀v S',jb J.eu (some (S.N,fb J.items)) (unpack K S J v) S'->jb F W S S':=by
     intro v S' hf;have hm:=JX (K:=K) hchk v;refine hm.trans ?_;simp only[uj,Qm,QH]at hchk;obtain⟨⟨⟨⟨⟨⟨hnd,hids⟩,hokv⟩,hkeep⟩,hobj⟩,hF⟩,hW⟩:=hchk;refine⟨fun t ht=>hf.env t (fo.1 (hF t ht)),fun id hid=>hf.H id ?_,hf.N⟩
     simp only[okW,Qq73];refine⟨?_,?_⟩
     ·cases W with
      |none=>cases hW
      |some q=>
       obtain⟨n,l⟩:=q;simp only at hW;simp only[okW,Qq73]at hid;have h1:=QG hW
       cases hb:Nat.ble S.N id with
       |false=>rfl
       |true=>have:=QG hb;rw[Nat.ble_eq_true_of_le (QK h1 this)]at hid;cases hid.1
     ·cases hb:ig id (fb J.items)with
      |false=>rfl
      |true=>have:=(hids id (fo.1 hb)).2;rw[hid]at this;cases this
    have hself:∀v S',jb J.eu (some (S.N,fb J.items)) (unpack K S J v) S'->∀v',pack K S' J.items=some v'->∀(E:En) (a:Act) (w:World) (L:Nat->Value),Rel E S'.st a w L->∃L',Rel E (unpack K S J v').st a w L':=by
     intro v S' hf v' hv' E a w L hrel;have hc:=hchk;simp only[uj,Qm,QH]at hc;obtain⟨⟨⟨⟨⟨⟨hnd,hids⟩,hokv⟩,hkeep⟩,hobj⟩,hF⟩,hW⟩:=hc;refine⟨L,Rel.meet hchk hv' (fun t ht=>(hf.env t ht).trans ?_) (fun id hid hni=>(hf.H id ?_).trans ?_) (by have:=hf.N;rw[unpack,DN,MV]at this;exact this) hrel⟩
     ·have hns:ig t (slotsOf J.items)=false:=by simpa using(hkeep t ht).2
      rcases Ac (K:=K) (S.base J.eu) J.items v t with⟨⟨i,d⟩,hmem,h1,h2⟩|⟨_,h2⟩
      ·exact absurd (CF (kh hmem) h1) (pJ hns)
      ·rw[show(unpack K S J v).env t=_ from h2,Fp,Qr ht]
     ·simp only[okW,Qq73];refine⟨?_,?_⟩
      ·cases hb:Nat.ble S.N id with
       |false=>rfl
       |true=>have:=QG hb;omega
      ·cases hb:ig id (fb J.items)with
       |false=>rfl
       |true=>exact absurd (fo.1 hb) hni
     ·rcases DO (K:=K) (S.base J.eu) J.items v id hnd with⟨⟨i,d⟩,hmem,h1,h2⟩|⟨_,h2⟩
      ·exact absurd (uQ (kh hmem) h1) hni
      ·rw[show(unpack K S J v).H id=_ from h2,MW,Qr hid]
    obtain⟨n,hn⟩:=Bc h
    refine T5 (fun m A=>∃v,A=(unpack K S J v).st/\pZ (fun v=>pV K Γ x J.eu (some (S.N,fb J.items)) (fun e S'=>match e with
     | .normal=>(match pack K S' J.items with|some v=>some (Sum.inl v)|none=>none)
     |e=>(k e S').map Sum.inr) (unpack K S J v)) m v=some r) n (GJ hchk hv0 (jb.refl _ _ _)) ⟨v0,rfl,hn⟩ ?_
    rintro m A ⟨v,rfl,hm⟩
    cases m with
    |zero=>cases hm
    |succ m=>
     simp only[pZ]at hm;split at hm
     ·cases hm
     ·rename_i r' hs;injection hm with hm
      subst hm;refine(fA hΓ x J.eu _ _ _ _ hok hs).mono ?_;rintro e A ⟨S',rfl,hf,hk⟩
      cases e with
      |normal=>
       simp only at hk;split at hk<;>cases hk
      |exit i=>simp only[Qb]at hk;obtain⟨q,hq,e⟩:=hk;injection e with e;subst e;exact⟨S',rfl,hsub v S' hf,hq⟩
      |goto l=>simp only[Qb]at hk;obtain⟨q,hq,e⟩:=hk;injection e with e;subst e;exact⟨S',rfl,hsub v S' hf,hq⟩
      |ret=>simp only[Qb]at hk;obtain⟨q,hq,e⟩:=hk;injection e with e;subst e;exact⟨S',rfl,hsub v S' hf,hq⟩
      |panic c=>simp only[Qb]at hk;obtain⟨q,hq,e⟩:=hk;injection e with e;subst e;exact⟨S',rfl,hsub v S' hf,hq⟩
      |outgrown=>simp only[Qb]at hk;obtain⟨q,hq,e⟩:=hk;injection e with e;subst e;exact⟨S',rfl,hsub v S' hf,hq⟩
     ·rename_i v' hs;refine(fA hΓ x J.eu _ _ _ _ hok hs).mono ?_;rintro e A ⟨S',rfl,hf,hk⟩
      cases e with
      |normal=>
       simp only at hk;split at hk
       ·rename_i v1 hv1;injection hk with hk
        injection hk with hk
        subst hk;exact⟨m,Nat.lt_succ_self m,_,hself v S' hf v1 hv1,v1,rfl,hm⟩
       ·cases hk
      |exit i=>simp only[Qb]at hk;obtain⟨q,hq,e⟩:=hk;cases e
      |goto l=>simp only[Qb]at hk;obtain⟨q,hq,e⟩:=hk;cases e
      |ret=>simp only[Qb]at hk;obtain⟨q,hq,e⟩:=hk;cases e
      |panic c=>simp only[Qb]at hk;obtain⟨q,hq,e⟩:=hk;cases e
      |outgrown=>simp only[Qb]at hk;obtain⟨q,hq,e⟩:=hk;cases e
   ·cases h
  ·cases h
 | .Ya n x,ρ,F,W,k,S,r,hok,h=>by
  simp only[pV]at h;have⟨g,hg,h⟩:=(⟨_,rfl,h⟩:∃g,g=_/\Rh g n S=some r);refine T5 (fun m A=>∃S1:aZ U,A=S1.st/\jb F W S S1/\Rh g m S1=some r) n (fun E a w L h=>⟨L,h⟩) ⟨S,rfl,jb.refl _ _ _,h⟩ ?_
  rintro m A ⟨S1,rfl,hf1,hm⟩
  cases m with
  |zero=>cases hm
  |succ m=>
   simp only[Rh]at hm;rw[hg]at hm;simp only at hm;rw[<-hg]at hm;refine(fA hΓ x F W _ S1 r hok hm).mono ?_;rintro e A ⟨S',rfl,hf,hk⟩
   cases e with
   |normal=>exact⟨m,Nat.lt_succ_self m,S'.st,fun E a w L h=>⟨L,h⟩,S',rfl,hf1.trans hf,hk⟩
   |exit i=>exact⟨S',rfl,hf1.trans hf,hk⟩
   |goto l=>exact⟨S',rfl,hf1.trans hf,hk⟩
   |ret=>exact⟨S',rfl,hf1.trans hf,hk⟩
   |panic c=>exact⟨S',rfl,hf1.trans hf,hk⟩
   |outgrown=>exact⟨S',rfl,hf1.trans hf,hk⟩
 | .ord J f p0 x y,ρ,F,W,k,S,r,hok,h=>by
  simp only[SA.dO,Qm]at hok;simp only[pV]at h;obtain⟨D,hD⟩:∃D,SC.vp (.Gs (.oY (.bY f [])) [p0] x.erase y.erase)=D:=⟨_,rfl⟩;rw[hD]at h;split at h
  ·rename_i nx hit;obtain⟨fN,c,hf,hen,hn⟩:=He hΓ hit;split at h
   ·rename_i hcond;simp only[Qm]at hcond;obtain⟨⟨hkD,hFD⟩,hchk⟩:=hcond
    have hp:ig p0 J.eu=false:=by
     have hqD:p0∈D:=by rw[<-hD];simp[SC.vp]
     simpa using QH.1 hkD p0 hqD
    split at h
    ·rename_i v0 hv0;have⟨step,hstep,h⟩:=(⟨_,rfl,h⟩:∃step,step=_/\EL step (fun v=>k .normal (unpack K (S.fJ D) J v)) nx 12000 0 true v0=some r)
     have hN:(S.fJ D).N=S.N:=rfl;refine afU hf hen hn (fun i s b A=>∃v,A=(unpack K (S.fJ D) J v).st/\EL step (fun v=>k .normal (unpack K (S.fJ D) J v)) nx i s b v=some r) 12000 ?_ ?_ ?_ ?_
     ·rw[hD,<-Es];exact⟨_,GJ hchk hv0 (jb.refl _ _ _),v0,rfl,h⟩
     ·rintro s A ⟨v,rfl,hm⟩;cases hm
     ·rintro m s A ⟨v,rfl,hm⟩;simp only[EL,Qk]at hm
      obtain⟨z,hz,hzr⟩:∃z,step s v=some z/\(match z with| .inr r'=>r'=r| .inl s'=>∃q,nx s=some q/\EL step (fun v=>k .normal (unpack K (S.fJ D) J v)) nx m q.1 q.2.1 s'=some r):=by
       split at hm
       ·cases hm
       ·rename_i r' hs;injection hm with hm
        exact⟨_,hs,hm⟩
       ·rename_i s' hs;simp only[Qc]at hm;exact⟨_,hs,hm⟩
      clear hm;rw[hstep]at hz;simp only at hz
      have hst:({(unpack K (S.fJ D) J v).st with env:=bJ (unpack K (S.fJ D) J v).st.env p0 (.int .i64 s)}:St)=aZ.st {(unpack K (S.fJ D) J v)with env:=fu (unpack K (S.fJ D) J v).env p0 (.int .i64 s)}:=by
       have henv:bJ (unpack K (S.fJ D) J v).st.env p0 (.int .i64 s)=fun t=>((fu (unpack K (S.fJ D) J v).env p0 (.int .i64 s)) t).pv:=by
        funext t
        simp only[cP];unfold bJ;split
        ·rfl
        ·rfl
       exact congrArg (fun e=>({(unpack K (S.fJ D) J v).st with env:=e}:St)) henv
      rw[hst]
      have hf0:jb J.eu (some (S.N,fb J.items)) (unpack K (S.fJ D) J v) {(unpack K (S.fJ D) J v)with env:=fu (unpack K (S.fJ D) J v).env p0 (.int .i64 s)}:=by
       refine⟨fun t ht=> ?_,fun _ _=>rfl,QI _⟩
       simp only[cP];rw[cu _ _ (fun e=>by have:=hp;rw[<-e,fo.2 ht]at this;cases this)]
      refine(fA hΓ x J.eu _ _ _ _ hok.1 hz).mono ?_;rintro e A ⟨S1,rfl,hf1,hk1⟩
      cases e with
      |normal=>
       simp only at hk1;refine(fA hΓ y J.eu _ _ _ _ hok.2 hk1).mono ?_;rintro e A ⟨S2,rfl,hf2,hk2⟩;have hf3:jb J.eu (some (S.N,fb J.items)) (unpack K (S.fJ D) J v) (S2.fJ D):=((hf0.trans hf1).trans hf2).trans (Ky hkD _ _);have hf4:jb F W S (S2.fJ D):=(Ky hFD W S).trans (Sh hchk v hf3);rw[hD]
       cases e with
       |normal=>
        simp only at hk2;split at hk2
        ·rename_i v' hv';injection hk2 with hk2
         subst hk2;obtain⟨q,hq,hzr⟩:=hzr;refine⟨_,?_,q,hq,v',rfl,hzr⟩;rw[<-Es];exact Y6 hchk v hf3 hv'
        ·cases hk2
       |ret=>
        simp only[Qb]at hk2;obtain⟨q,hq,rfl⟩:=hk2;simp only at hzr;subst hzr;exact⟨S2.fJ D,(Es _ _).symm,hf4,hq⟩
       |exit i=>
        simp only[Qb]at hk2;obtain⟨q,hq,rfl⟩:=hk2;simp only at hzr;subst hzr;exact⟨S2.fJ D,(Es _ _).symm,hf4,hq⟩
       |goto i=>cases hk2
       |panic ch=>cases hk2
       |outgrown=>cases hk2
      |ret=>cases hk1
      |exit i=>cases hk1
      |goto i=>cases hk1
      |panic ch=>cases hk1
      |outgrown=>cases hk1
     ·rintro m s A ⟨v,rfl,hm⟩
      have hm:k .normal (unpack K (S.fJ D) J v)=some r:=by
       cases m<;>exact hm
      exact⟨_,rfl,(Ky hFD W S).trans (Sh hchk v (jb.refl _ _ _)),hm⟩
    ·cases h
   ·cases h
  ·cases h
 | .ps p x,ρ,F,W,k,S,r,hok,h=>by
  simp only[pV]at h;split at h
  ·rename_i hW;simp only[Qm]at hW;split at h
   ·rename_i S1 hp;refine VW (fun E a w L hr=>Ps.sound K hp hr) ((fA hΓ x F W k S1 r hok h).mono fun e A ⟨S'',h1,h2,h3⟩=>⟨S'',h1,jb.trans ?_ h2,h3⟩)
    exact(Ps.frm hp hW.1).toC hW.2
   ·cases h
  ·cases h
 | .DP p x,ρ,F,W,k,S,r,hok,h=>by
  refine aeq (fA hΓ x F W _ S r hok h) ?_;rintro e A ⟨S',rfl,hf,hk⟩
  cases e with
  |normal=>
   simp only at hk;split at hk
   ·rename_i hW;simp only[Qm]at hW;split at hk
    ·rename_i S1 hp;exact⟨S1.st,⟨S1,rfl,hf.trans ((Ps.frm hp hW.1).toC hW.2),hk⟩,fun E a w L hr=>Ps.sound K hp hr⟩
    ·cases hk
   ·cases hk
  |exit i=>exact⟨_,⟨S',rfl,hf,hk⟩,fun E a w L hr=>⟨L,hr⟩⟩
  |goto l=>exact⟨_,⟨S',rfl,hf,hk⟩,fun E a w L hr=>⟨L,hr⟩⟩
  |ret=>exact⟨_,⟨S',rfl,hf,hk⟩,fun E a w L hr=>⟨L,hr⟩⟩
  |panic c=>exact⟨_,⟨S',rfl,hf,hk⟩,fun E a w L hr=>⟨L,hr⟩⟩
  |outgrown=>exact⟨_,⟨S',rfl,hf,hk⟩,fun E a w L hr=>⟨L,hr⟩⟩
end
end
section
open Go.RowKit
section
variable {P : Program} {E : En} {S : St} {a : Act} {w : World} {L : Nat -> Value} {nt : Nat}
theorem VS.post{sc:SC}{Q Q':Exit->St->Prop}{S:St}(h:VS P nt sc Q S)(hq:∀e A,Q e A->∃A',(∀(E:En) (a:Act) (w:World) (L:Nat->Value),Rel E A a w L->∃L',Rel E A' a w L')/\Q' e A'):VS P nt sc Q' S:=
 fun c hs hc E hE hk a w L hr=>wpIn_mono (h c hs hc E hE hk a w L hr) fun e a' w' ⟨S',L',h1,h2⟩=>by
  obtain⟨A',h3,h4⟩:=hq e S' h2;obtain⟨L'',h5⟩:=h3 E a' w' L' h1;exact⟨A',L'',h5,h4⟩
theorem Rel.agx(h:Rel E S a w L){id:Nat}{cs:List PV}(hid:id<S.N)(hc:(S.H id).c= .box cs):Rel E {S with H:=bJ S.H id ⟨(S.H id).ak,.box (cs.map nz)⟩} a w L:=by
 have:=(h.qA (w':=w) hid ⟨(S.H id).ak,.box (cs.map nz)⟩ (L id) (.inl ⟨rfl,rfl,by rw[hc];rfl⟩) rfl rfl rfl (QI _) (fun _ _ _=>rfl) (fun b _ hb=> .inl ⟨by rw[hc];rfl,hb⟩) (fun hs hg=>by
  obtain⟨b,cur,T,h1,h2,h3,h4⟩:=h.o6 hid hc
  exact⟨b,cur,T,h1,h2,h4,(h3.mono hs hg).nz⟩)).1
 rwa [Eo]at this
end
section
variable {U : TU}
def Wh(S:aZ U):RV->Option (KV U)
 | .tmp t=>some (S.env t)
 | .cell t n=>(match S.env t with
  | .ptr id ak off=>(match S.oE id ak with|some cs=>GP n (cs.drop off)|none=>none)
  |_=>none)
def PS(S:aZ U):List RV->Option (List (KV U))
 |[]=>some []
 |r::rs=>(match Wh S r with
  |some x=>(match PS S rs with|some xs=>some (x::xs)|none=>none)
  |none=>none)
def aeF:List (KV U)->KV U
 |[x]=>x
 |xs=> .dg xs
def JL(S:aZ U)(rs:List RV):Option (KV U):=
 match PS S rs with
 |some xs=>some (aeF xs)
 |none=>none
theorem aaj{S:aZ U}{r:RV}{x:KV U}(h:Wh S r=some x):BB S.st r=some x.pv:=by
 cases r with
 |tmp t=>injection h with h;subst h;rfl
 |cell t n=>
  simp only[Wh]at h;split at h
  ·rename_i id ak off ht;split at h
   ·rename_i cs hb;obtain⟨h1,h2⟩:=sv hb;have h3:S.st.env t= .ptr id ak off:=by simp only[aZ.st,ht,KV.pv]
    simp only[BB,h3];rw[Qr h1,h2];have:=Bs h;rw[List.map_drop]at this;exact this
   ·cases h
  ·cases h
theorem Ry{S:aZ U}:∀{rs:List RV} {xs:List (KV U)},PS S rs=some xs->wJ S.st rs=some (xs.map KV.pv)
 |[],xs,h=>by injection h with h;subst h;rfl
 |r::rs,xs,h=>by
  simp only[PS]at h;split at h
  ·rename_i x hx;split at h
   ·rename_i ys hys;injection h with h
    subst h;simp only[wJ,aaj hx,Ry hys,QD]
   ·cases h
  ·cases h
theorem Nk{S:aZ U}{rs:List RV}{x:KV U}(h:JL S rs=some x):wc S.st rs=some x.pv:=by
 unfold JL at h;split at h
 ·rename_i xs hxs;injection h with h
  subst h;have:=Ry hxs;unfold wc;rw[this]
  match xs with
  |[]=>rfl
  |[x]=>rfl
  |x::y::l=>simp only[QD,aeF,KV.pv,KV.cx]
 ·cases h
variable (K : TK U)
def KB(S:aZ U)(ex:Option Nat):(r:pW U)->KV U->Option r.den
 | .one T,x=>Cv K S.lk T x
 | .many Ts,x=>(match x with| .dg xs=>P7 K S.lk Ts xs|_=>none)
 | .fn a,x=>(match Nat.ble a.depth 9 with|true=>KD K S ex a x|false=>none)
variable {K}
theorem VG{S:aZ U}{ex:Option Nat}(hex:∀id,ex=some id->∀e k T xs,(S.H id).c≠ .row e k T xs){r:pW U}{x:KV U}{v:r.den}(h:KB K S ex r x=some v):fz S.st.H ex 9 x.pv=vq r v:=by
 cases r with
 |one T=>exact JG hex 7 h
 |many Ts=>
  simp only[KB]at h;split at h
  ·rename_i xs;rw[KV.pv,KV.cx,fz,vq,TA hex 6 Ts _ v h]
  ·cases h
 |fn a=>
  simp only[KB]at h;split at h
  ·rename_i hd;exact VJ hex a 9 x v (QG hd) h
  ·cases h
variable (K)
def XT(A_s:List (KV U)):aZ U:=
 {env:=fun t=>(A_s[t]?).getD .undef,H:=fun _=>⟨0,.dead⟩,N:=0}
def abx(pos:Nat)(cs A_s:List (KV U)):aZ U:=
 {env:=fun t=>((iX pos [KV.ptr 0 0 0] A_s)[t]?).getD .undef,H:=fun id=>(match Nat.beq id 0 with|true=>⟨0,.box cs⟩|false=>⟨0,.dead⟩),N:=1}
def Xm{ρ:Type}(ex:Option Nat)(rs:List RV)(r:pW U)(k:aZ U->r.den->Option ρ)(e:Exit)(S:aZ U):Option ρ:=
 match e with
 | .ret| .normal=>(match JL S rs with
  |some x=>(match KB K S ex r x with|some v=>k S v|none=>none)
  |none=>none)
 |_=>none
def Br(S:aZ U):List RV->Bool
 |[]=>true
 | .tmp _::l=>Br S l
 | .cell t _::l=>(match S.env t with| .ptr id _ _=> !Nat.beq id 0|_=>false)&&Br S l
 def Tj(Γ:List (eJ U))(sa:SA U)(rs:List RV)(A_s:List (dI U))(r:pW U)(a:fq A_s):Option r.den:=
 pV K Γ sa [] (some (0,[])) (Xm K none rs r fun _ v=>some v) (XT (Au K A_s a))
 def rcK(Γ:List (eJ U))(sa:SA U)(rs:List RV)(pos:Nat)(R:U.Ty)(A_s:List (dI U))(r:pW U)(s:U.den R)(a:fq A_s):Option (r.den×U.den R):=
 pV K Γ sa [] (some (0,[])) (Xm K (some 0) rs r fun S v=>(match Br S rs with
  |true=>(match S.oE 0 0 with
   |some cs=>(match K.dec R nL cs with|some s'=>some (v,s')|none=>none)
   |none=>none)
  |false=>none)) (abx pos (K.eI R s) (Au K A_s a))
 def nwK(Γ:List (eJ U))(sa:SA U)(rs:List RV)(A_s:List (dI U))(R:U.Ty)(a:fq A_s):Option (U.den R):=
 pV K Γ sa [] (some (0,[])) (fun e S=>(match e with
  | .ret=>(match JL S rs with
   |some (.ptr id ak 0)=>(match S.oE id ak with|some cs=>K.dec R nL cs|none=>none)
   |_=>none)
  |_=>none)) (XT (Au K A_s a))
variable {K}
variable {P : Program} {nt : Nat}
theorem Fq:∀(A_s:List (dI U)) (a:fq A_s),(fZ A_s a).length=A_s.length
 |[],_=>by rw[fZ];rfl
 |_::l,a=>by rw[fZ,QE,Fq l a.2,QE]
theorem V0(A_s:List (dI U))(a:fq A_s):(XT (Au K A_s a)).st=ff 0 false [] (fZ A_s a):=by
 unfold XT aZ.st ff;congr 1
 ·funext t
  rw[<-B7 K];simp only[Qq,Qu,OM,QT];cases (Au K A_s a)[t]?<;>rfl
theorem aev(pos:Nat)(R:U.Ty)(s:U.den R)(A_s:List (dI U))(a:fq A_s):(abx pos (K.eI R s) (Au K A_s a)).st=ff pos true (U.pv R s) (fZ A_s a):=by
 unfold abx aZ.st ff;congr 1
 ·funext t
  rw[<-B7 K];simp only[Qt];have:(iX pos [PV.ptr 0 0 0] ((Au K A_s a).map KV.pv))=(iX pos [KV.ptr 0 0 0] (Au K A_s a)).map KV.pv:=by simp[iX,KV.pv]
  rw[this,QT];cases (iX pos [KV.ptr 0 0 0] (Au K A_s a))[t]?<;>rfl
 ·funext id
  cases id with
  |zero=>simp only[and_self,Qt,dp.pv,ea.pv,K.oX]
  |succ id=>simp[Nat.beq,dp.pv,ea.pv]
theorem OV{ρ:Type}{ex:Option Nat}{rs:List RV}{r:pW U}{k:aZ U->r.den->Option ρ}{e:Exit}{S:aZ U}{z:ρ}(h:Xm K ex rs r k e S=some z):(e= .ret\/e= .normal)/\∃x v,JL S rs=some x/\KB K S ex r x=some v/\k S v=some z:=by
 unfold Xm at h
 have go:∀{o:Option ρ},o=some z->o=(match JL S rs with
  |some x=>(match KB K S ex r x with|some v=>k S v|none=>none)
  |none=>none)->∃x v,JL S rs=some x/\KB K S ex r x=some v/\k S v=some z:=by
  intro o ho he;rw[ho]at he;replace he:=he.symm;split at he
  ·rename_i x hx;split at he
   ·rename_i v hv;exact⟨x,v,hx,hv,he⟩
   ·cases he
  ·cases he
 split at h
 ·exact⟨.inl rfl,go h rfl⟩
 ·exact⟨.inr rfl,go h rfl⟩
 ·cases h
theorem Hd{f:FuncId}{Γ:List (eJ U)}{sa:SA U}{rs:List RV}{A_s:List (dI U)}{r:pW U}(hf:nU P f nt sa.erase rs)(hok:sa.dO=true)(hlen:A_s.length<=nt)(hΓ:vH P Γ){F:fq A_s->Option r.den}(hF:∀a,Tj K Γ sa rs A_s r a=F a):eJ.Sound P (.fn f A_s r F):=by
 refine⟨hf.enters,fun a v hv=> ?_⟩
 rw[<-hF a]at hv;refine hf.O1 (by simpa[Fq]using hlen) ?_
 rw[<-V0 (K:=K)];refine(fA hΓ sa [] _ _ _ _ hok hv).mono ?_;rintro e A ⟨S',rfl,_,hk⟩;obtain⟨he,x,v',h1,h2,h3⟩:=OV hk;injection h3 with h3
 subst h3
 have hret:A6 rs false (fun r' cs''=>r'=vq r v'/\(false=true->cs''=[])) S'.st:=by
  unfold A6;rw[Nk h1];exact⟨VG (fun id hid=>by cases hid) h2,fun h=>by cases h⟩
 rcases he with rfl|rfl<;>exact hret
theorem YU{S:aZ U}{id ak:Nat}{cs:List (KV U)}(hb:S.oE id ak=some cs){R:U.Ty}{s:U.den R}(hd:K.dec R nL cs=some s)(hN:id<S.N):(∀(E:En) (a:Act) (w:World) (L:Nat->Value),Rel E S.st a w L->∃L',Rel E {S.st with H:=bJ S.st.H id ⟨ak,.box (U.pv R s)⟩} a w L'):=by
 intro E a w L h;obtain⟨h1,h2⟩:=sv hb;have:=h.agx hN h2;rw[h1,(rN (K.l9 _ _ _ _ hd)).1]at this;exact⟨L,this⟩
theorem Td(K:TK U)(R:U.Ty)(s:U.den R):(U.pv R s).all PV.closed=true:=QH.2 fun y hy=>iP (K.eH R s y hy)
theorem Yk{f:FuncId}{Γ:List (eJ U)}{sa:SA U}{rs:List RV}{pos:Nat}{R:U.Ty}{A_s:List (dI U)}{r:pW U}(hf:nU P f nt sa.erase rs)(hok:sa.dO=true)(hlen:1+A_s.length<=nt)(hΓ:vH P Γ)
  {F:U.den R->fq A_s->Option (r.den×U.den R)} (hF:∀s a,rcK K Γ sa rs pos R A_s r s a=F s a):eJ.Sound P (.rc f pos R A_s r F):=by
 refine⟨hf.enters,fun s a v s' hv=> ?_⟩
 rw[<-hF s a]at hv;refine hf.O1 (by simpa[Fq]using hlen) ?_
 rw[<-aev (K:=K)];refine(fA hΓ sa [] _ _ _ _ hok hv).post ?_;rintro e A ⟨S',rfl,hfr,hk⟩;obtain⟨he,x,v',h1,h2,h3⟩:=OV hk;split at h3
 case h_2=>cases h3
 rename_i hnc;split at h3
 ·rename_i cs hb;split at h3
  ·rename_i s'' hd;injection h3 with h3
   injection h3 with h4 h5
   subst h4 h5;have hN:0<S'.N:=QJ (show 0<1 from Nat.one_pos) hfr.N
   refine⟨_,YU hb hd hN,?_⟩;have h6:=Nk h1
   have hres:∀rs:List RV,Br S' rs=true->wJ {S'.st with H:=bJ S'.st.H 0 ⟨0,.box (U.pv R s'')⟩} rs=wJ S'.st rs:=by
    intro rs hrs
    induction rs with
    |nil=>rfl
    |cons q rs ih=>
     cases q with
     |tmp t=>simp only[Br]at hrs;simp only[wJ,BB,ih hrs]
     |cell t n=>
      simp only[Br,Qm]at hrs;have h9:=hrs.1;split at h9
      ·rename_i id ak off ht;have hne:id≠0:=by intro e;subst e;simp at h9
       have h10:S'.st.env t= .ptr id ak off:=by simp only[aZ.st,ht,KV.pv]
       simp only[wJ,BB,h10,cu _ _ hne,ih hrs.2]
      ·cases h9
   have hret:A6 rs true (fun r' cs''=>r'=vq r v'/\(true=true->cs''=U.pv R s'')) {S'.st with H:=bJ S'.st.H 0 ⟨0,.box (U.pv R s'')⟩}:=by
    unfold A6
    have h7:wc {S'.st with H:=bJ S'.st.H 0 ⟨0,.box (U.pv R s'')⟩} rs=some x.pv:=by
     rw[<-h6];unfold wc;have h8:=hres rs hnc;simp only[h8]
    rw[h7];simp only[bZ];refine⟨Td K R s'',?_,by simp⟩
    have hbx:=(Ar hb).2;rw[<-VG (K:=K) (S:=S') (ex:=some 0) (fun id hid=>by injection hid with hid;subst hid;intro e k T xs hq;rw[hbx]at hq;cases hq) h2]
    have hz:∀(n:Nat) (y:PV),fz (bJ S'.st.H 0 ⟨0,.box (U.pv R s'')⟩) (some 0) n y=fz S'.st.H (some 0) n y:=by
     intro n
     induction n with
     |zero=>intro y;simp only[fz]
     |succ n ih=>
      intro y;have hu:∀id,¬(some id=some 0)->bJ S'.st.H 0 ⟨0,.box (U.pv R s'')⟩ id=S'.st.H id:=fun id hid=>cu _ _ (fun e=>hid (by rw[e]))
      have hm:fz (bJ S'.st.H 0 ⟨0,.box (U.pv R s'')⟩) (some 0) n=fz S'.st.H (some 0) n:=funext ih
      cases y with
      |own id ak=>
       simp only[fz,hm]
       by_cases h0:some id=some 0
       ·rw[Qr (.inl h0),Qr (.inl h0)]
       ·rw[hu id h0]
      |ptr id ak off=>
       simp only[fz,hm]
       by_cases h0:some id=some 0
       ·rw[Qr (.inl h0),Qr (.inl h0)]
       ·rw[hu id h0]
      |agg cs=>simp only[fz,hm]
      |dg cs=>simp only[fz,hm]
      |bY f cs=>simp only[fz,hm]
      |_=>simp only[fz]
    exact hz 9 x.pv
   rcases he with rfl|rfl<;>exact hret
  ·cases h3
 ·cases h3
theorem YV{f:FuncId}{Γ:List (eJ U)}{sa:SA U}{t:Nat}{A_s:List (dI U)}{R:U.Ty}(hf:nU P f nt sa.erase [.tmp t])(hok:sa.dO=true)(hlen:A_s.length<=nt)(hΓ:vH P Γ){F:fq A_s->Option (U.den R)}(hF:∀a,nwK K Γ sa [.tmp t] A_s R a=F a):eJ.Sound P (.nw f A_s R F):=by
 refine⟨hf.enters,fun a s hv=> ?_⟩
 rw[<-hF a]at hv;refine hf.aia (by simpa[Fq]using hlen) ?_
 rw[<-V0 (K:=K)];intro c hs hc E hE hkt a' w L hr;refine wpIn_mono (fA hΓ sa [] _ _ _ _ hok hv c hs hc E hE hkt a' w L hr) ?_;rintro e a2 w2 ⟨A,L2,hrel,S',rfl,_,hk⟩;split at hk
 ·split at hk
  ·rename_i id ak hx;split at hk
   ·rename_i cs hb
    have hre:S'.st.env t= .ptr id ak 0:=by
     have:=Nk hx;simpa[wc,wJ,BB,KV.pv]using this
    have hN:id<S'.N:=by
     have:=hrel.env t;rw[hre]at this;exact(this.oI (show(S'.st.gh L2).V id=ak from(sv hb).1)).1
    obtain⟨L3,h3⟩:=YU hb hk hN E a2 w2 L2 hrel;refine⟨_,L3,h3,?_⟩
    have h7:wc {S'.st with H:=bJ S'.st.H id ⟨ak,.box (U.pv R s)⟩} [.tmp t]=some (.ptr id ak 0):=by
     simp only[wc,wJ,BB];rw[hre]
    simp only[R9];rw[h7];simp only[bZ,Qt];exact⟨Td K R s,trivial⟩
   ·cases hk
  ·cases hk
 ·cases hk
variable (K)
variable {K}
end
end
section
def op{U:TU}(d:Nat)(x:bS)(r:RS U):RS U:= .op ⟨some d,none,x⟩ r
def ops{U:TU}(x:bS)(r:RS U):RS U:= .op ⟨none,none,x⟩ r
def tm(t:Nat):bn:= .tmp t
def ci(n:Int):bn:= .oY (.int .i64 n)
def mc{U:TU}(d:Nat)(n:Int)(r:RS U):RS U:=op d (.lI (ci n)) r
def aq(k:IntKind)(a b:Int):Int:=k.wrap (a+b)
def da(k:IntKind)(a b:Int):Int:=k.wrap (a - b)
def tX(k:IntKind)(a b:Int):Int:=k.wrap (a*b)
def JM(k:IntKind)(a b:Int):Int:=k.wrap (a.tdiv b)
def Wi(_:IntKind)(a b:Int):Int:=a.tmod b
def bp(k:IntKind)(a b:Int):Int:=k.wrap ((BitVec.ofInt k.bits a&&&BitVec.ofInt k.bits b).toNat)
def ka(k:IntKind)(a b:Int):Int:=k.wrap ((BitVec.ofInt k.bits a|||BitVec.ofInt k.bits b).toNat)
def jG(k:IntKind)(a b:Int):Int:=k.wrap ((BitVec.ofInt k.bits a^^^BitVec.ofInt k.bits b).toNat)
def gn(k:IntKind)(a b:Int):Int:=k.wrap ((BitVec.ofInt k.bits a&&& ~~~ BitVec.ofInt k.bits b).toNat)
def cg(k:IntKind)(a b:Int):Int:=k.wrap (a*2 ^ (min b.toNat k.bits))
def cm(k:IntKind)(a b:Int):Int:=a.fdiv (2 ^ (min b.toNat k.bits))
def bz(k:IntKind)(n:Int):Int:=k.wrap n
def fm(a b:Int):Int:=if b<a then b else a
def bP(a b:Int):Int:=if b>a then b else a
def nR(neg:Bool)(a b:Int)(s t:ByteArray):Bool:=xor neg (decide (a=b)&&decide (s=t))
def gr{A R:Type}(B:(A->Option R)->A->Option R):Nat->A->Option R
 |0,_=>none
 |n+1,a=>B (gr B n) a
section
variable {U : TU}
inductive RN (U:TU) where
 |ps (p:Ps U)
 |AN (t:Nat)
 |two
 |pr
def Z5(t:Nat):List SG->Option (List SG×SG×List SG)
 |[]=>none
 |o::r=>(match o.op with
  | .pick (.tmp t') _ _=>(match Nat.beq t t' with
   |true=>some ([],o,r)
   |false=>(match Z5 t r with|some (b,q,r')=>some (o::b,q,r')|none=>none))
  |_=>(match Z5 t r with|some (b,q,r')=>some (o::b,q,r')|none=>none))
def before(n:Nat):List (Nat×RN U)->List (Nat×RN U)
 |[]=>[]
 |(j,x)::l=>(match Nat.ble n j with|true=>[]|false=>(j,x)::before n l)
def after(n:Nat):List (Nat×RN U)->List (Nat×RN U)
 |[]=>[]
 |(j,x)::l=>(match Nat.ble n j with|true=>(j,x)::l|false=>after n l)
def wK(qP:Bool):Nat->List Nat->Nat->List SG->List (Nat×RN U)->RS U
 |0,_,_,_,_=> .nil
 |f+1,kn,i,[],ns=>(match ns with
  |(_,.ps p)::ns'=> .ps p (wK qP f kn i [] ns')
  |(_,.AN t)::ns'=> .AN t (wK qP f (t::kn) i [] ns')
  |_=> .nil)
 |f+1,kn,i,o::r,ns=>(match(match ns with|(j,_)::_=>Nat.beq j i|[]=>false)with
  |true=>(match ns with
   |(_,.ps p)::ns'=> .ps p (wK qP f kn i (o::r) ns')
   |(_,.AN t)::ns'=> .AN t (wK qP f (t::kn) i (o::r) ns')
   |(_,.two)::ns'=>(match o.op with
    | .call g [x,y]=> .two o.d g x y (wK qP f kn (Nat.succ i) r ns')
    |_=> .nil)
   |(_,.pr)::ns'=>(match o.d,o.op,r with
    |some t1,.call g [x],o2::r'=>(match o2.d,o2.op with
     |some t2,.call g2 _=> .pr t1 g g2 x t2 (wK qP f kn (Nat.succ (Nat.succ i)) r' ns')
     |_,_=> .nil)
    |_,_,_=> .nil)
   |[]=> .nil)
  |false=>(match o.g with
   |none=> .op o (wK qP f kn (Nat.succ i) r ns)
   |some (t,w)=>(match ig t kn with
    |true=> .op o (wK qP f kn (Nat.succ i) r ns)
    |false=>(match qP with
     |true=> .AN t (wK qP f (t::kn) i (o::r) ns)
     |false=>(match Z5 t (o::r)with
      |some (b,q,r')=>(match q.op with
       | .pick _ x y=> .ite t w (wK qP f (t::kn) i b (before (Nat.add i b.length) ns)) (q.d.getD 0) q.g x y (wK qP f kn (Nat.succ (Nat.add i b.length)) r' (after (Nat.add i b.length) ns))
       |_=> .nil)
      |none=> .nil)))))
inductive NT (U:TU) where
 |e
 |l (x:NT U)
 |r (x:NT U)
 |b (x y:NT U)
 |ps (p:Ps U) (x:NT U)
 |DP (p:Ps U) (x:NT U)
 |j (J:JS U) (x:NT U)
 |u (n:Nat) (x:NT U)
 |k (J:JS U) (f k:Nat) (nE:Option Nat) (T:U.Ty) (x:NT U)
 |o (J:JS U) (f:Nat) (x:NT U)
 |g (ns:List (Nat×RN U))
def NT.lt:NT U->NT U
 | .l x=>x
 | .b x _=>x
 | .j _ x=>x.lt
 | .k _ _ _ _ _ x=>x.lt
 | .o _ _ x=>x.lt
 | .ps _ x=>x.lt
 | .DP _ x=>x.lt
 |_=> .e
def NT.rt:NT U->NT U
 | .r x=>x
 | .b _ x=>x
 | .j _ x=>x.rt
 | .k _ _ _ _ _ x=>x.rt
 | .o _ _ x=>x.rt
 | .ps _ x=>x.rt
 | .DP _ x=>x.rt
 |_=> .e
def NT.wrap:NT U->SA U->SA U
 | .ps p x,s=> .ps p (x.wrap s)
 | .DP p x,s=> .DP p (x.wrap s)
 |_,s=>s
def NT.core:NT U->NT U
 | .ps _ x=>x.core
 | .DP _ x=>x.core
 |x=>x
def gf:SC->NT U->SA U
 | .skip,t=>t.wrap .skip
 | .xu ops,t=>t.wrap (.xu (match t.core with| .g ns=>wK false 4000 [] 0 ops ns|_=>wK false 4000 [] 0 ops []))
 | .qP un ops,t=>t.wrap (.qP un (match t.core with| .g ns=>wK true 4000 [] 0 ops ns|_=>wK true 4000 [] 0 ops []))
 | .seq x y,t=>t.wrap (match t.core with
  | .j J u=> .join J (gf x u.lt) (gf y u.rt)
  |u=> .seq (gf x u.lt) (gf y u.rt))
 | .cond c x y,t=>t.wrap (.cond c (gf x t.lt) (gf y t.rt))
 | .block id x,t=>t.wrap (.block id (gf x t.lt))
 | .loop x,t=>t.wrap (match t.core with
  | .j J u=> .loop J (gf x u.lt)
  | .u n t=> .Ya n (gf x t.lt)
  |_=> .loop ⟨[],[]⟩ (gf x t.lt))
 | .Gs g ps x y,t=>t.wrap (match t.core with
  | .o J f u=> .ord J f (ps.headD 0) (gf x u.lt) (gf y u.rt)
  |_=> .skip)
 | .exit id,t=>t.wrap (.exit id)
 | .ret,t=>t.wrap .ret
def kT(P:Program)(nt:Nat)(hs:List Nat)(fn:Func):SC:=(fn.body.bind (aM P nt hs)).getD .skip
end
section
variable {U : TU} {P : Program}
structure KS (U:TU) (P:Program) where
 k:eJ U
 s:k.Sound P
def KS.ks:List (KS U P)->List (eJ U)
 |[]=>[]
 |x::l=>x.k::KS.ks l
theorem KS.all:∀l:List (KS U P),vH P (KS.ks l)
 |[]=>trivial
 |x::l=>⟨x.s,KS.all l⟩
variable {K : TK U} {f : FuncId} {A_s : List (dI U)} {r : pW U} {e k : Nat} {T R : U.Ty}
theorem fk{f nt:Nat}{c:SC}{rs:List RV}(fn:Func)(hs:List Nat)(hf:P.funcs[f]?=some fn)(h0:fn.ntmps=nt:=by rfl)(h1:(fn.body.bind (aM P nt hs))=some c:=by kernel_rfl)(h2:nc P fn.results.toList=some rs:=by kernel_rfl)(h3:(fn.name== "runtime.NumGoroutine")=false:=by kernel_rfl):nU P f nt c rs:=⟨fn,hs,hf,h0,h1,h2,h3⟩
theorem fnS(sa:SA U)(nt:Nat)(rs:List RV)(G:List (KS U P))(hf:nU P f nt sa.erase rs)(hok:sa.dO=true:=by kernel_rfl)(hlen:A_s.length<=nt:=by decide){F:fq A_s->Option r.den}(hF:Tj K (KS.ks G) sa rs A_s r=F:=by kernel_rfl):eJ.Sound P (.fn f A_s r F):=
 Hd hf hok hlen (KS.all G) fun a=>congrFun hF a
theorem rcS{pos:Nat}(sa:SA U)(nt:Nat)(rs:List RV)(G:List (KS U P))(hf:nU P f nt sa.erase rs)(hok:sa.dO=true:=by kernel_rfl)(hlen:1+A_s.length<=nt:=by decide){F:U.den R->fq A_s->Option (r.den×U.den R)}(hF:rcK K (KS.ks G) sa rs pos R A_s r=F:=by kernel_rfl):eJ.Sound P (.rc f pos R A_s r F):=
 Yk hf hok hlen (KS.all G) fun s a=>congrFun (congrFun hF s) a
theorem nwS(sa:SA U)(nt t:Nat)(G:List (KS U P))(hf:nU P f nt sa.erase [.tmp t])(hok:sa.dO=true:=by kernel_rfl)(hlen:A_s.length<=nt:=by decide){F:fq A_s->Option (U.den R)}(hF:nwK K (KS.ks G) sa [.tmp t] A_s R=F:=by kernel_rfl):eJ.Sound P (.nw f A_s R F):=
 YV hf hok hlen (KS.all G) fun a=>congrFun hF a
theorem fnR(sa:SA U)(nt:Nat)(rs:List RV)(G:List (KS U P))(hf:nU P f nt sa.erase rs)(hok:sa.dO=true:=by kernel_rfl)(hlen:A_s.length<=nt:=by decide){B:(fq A_s->Option r.den)->fq A_s->Option r.den}(hB:(fun g=>Tj K (.fn f A_s r g::KS.ks G) sa rs A_s r)=B):∀n,eJ.Sound P (.fn f A_s r (gr B n))
 |0=>⟨hf.enters,fun a r h=>by cases h⟩
 |n+1=>Hd (K:=K) (Γ:= .fn f A_s r (gr B n)::KS.ks G) (F:=gr B (n+1)) hf hok hlen ⟨fnR sa nt rs G hf hok hlen hB n,KS.all G⟩ fun a=>congrFun (congrFun hB (gr B n)) a
theorem ud(sa:SA U)(nt:Nat)(rs:List RV)(G:List (KS U P))(hf:nU P f nt sa.erase rs)(hok:sa.dO=true:=by kernel_rfl)(hlen:A_s.length<=nt:=by decide){B:(fq A_s->Option r.den)->fq A_s->Option r.den}(hB:(fun g=>Tj K (.fn f A_s r g::KS.ks G) sa rs A_s r)=B:=by kernel_rfl){F:fq A_s->Option r.den}(hF:∀a,∃n,F a=gr B n a):eJ.Sound P (.fn f A_s r F):=
 ⟨hf.enters,fun a r h=>by
  obtain⟨n,hn⟩:=hF a;rw[hn]at h
  exact(fnR sa nt rs G hf hok hlen hB n).2 a r h⟩
theorem Xe(sa:SA U)(nt:Nat)(rs:List RV)(G:(g:fq A_s->Option r.den)->eJ.Sound P (.fn f A_s r g)->List (KS U P))(hf:nU P f nt sa.erase rs)(hok:sa.dO=true:=by kernel_rfl)(hlen:A_s.length<=nt:=by decide){B:(fq A_s->Option r.den)->fq A_s->Option r.den}(hB:(fun g h=>Tj K (.fn f A_s r g::KS.ks (G g h)) sa rs A_s r)=fun g _=>B g):∀n,eJ.Sound P (.fn f A_s r (gr B n))
 |0=>⟨hf.enters,fun a r h=>by cases h⟩
 |n+1=>Hd (K:=K) (Γ:= .fn f A_s r (gr B n)::KS.ks (G (gr B n) (Xe sa nt rs G hf hok hlen hB n))) (F:=gr B (n+1)) hf hok hlen ⟨Xe sa nt rs G hf hok hlen hB n,KS.all _⟩ fun a=>congrFun (congrFun (congrFun hB (gr B n)) (Xe sa nt rs G hf hok hlen hB n)) a
theorem ace(sa:SA U)(nt:Nat)(rs:List RV)(G:(g:fq A_s->Option r.den)->eJ.Sound P (.fn f A_s r g)->List (KS U P))(hf:nU P f nt sa.erase rs)(hok:sa.dO=true:=by kernel_rfl)(hlen:A_s.length<=nt:=by decide){B:(fq A_s->Option r.den)->fq A_s->Option r.den}(hB:(fun g h=>Tj K (.fn f A_s r g::KS.ks (G g h)) sa rs A_s r)=(fun g _=>B g):=by kernel_rfl){F:fq A_s->Option r.den}(hF:∀a,∃n,F a=gr B n a):eJ.Sound P (.fn f A_s r F):=
 ⟨hf.enters,fun a r h=>by
  obtain⟨n,hn⟩:=hF a;rw[hn]at h
  exact(Xe sa nt rs G hf hok hlen hB n).2 a r h⟩
end
end
section
structure aa where
 ar:Int
 au:(List Int)
 aG:(List aa)
theorem aa.eta(x:aa):aa.mk x.ar x.au x.aG=x:=by cases x;rfl
@[reducible] def al (x:aa):aa:=aa.mk x.ar x.au x.aG
structure aN where
 ao:Int
 aO:Int
 ab:aa
 dw:(List ByteArray)
 bB:(List ByteArray)
@[simp] theorem aN.eta (x:aN):aN.mk x.ao x.aO x.ab x.dw x.bB=x:=rfl
structure aB where
 ao:Int
 aK:Int
 Round:Int
 aO:Int
 ab:aa
 Ax:ByteArray
 dw:(List ByteArray)
 bB:(List ByteArray)
 du:(List ByteArray)
 aI:(List aN)
@[simp] theorem aB.eta (x:aB):aB.mk x.ao x.aK x.Round x.aO x.ab x.Ax x.dw x.bB x.du x.aI=x:=rfl
structure ai where
 ah:Int
 Value:ByteArray
@[simp] theorem ai.eta (x:ai):ai.mk x.ah x.Value=x:=rfl
structure aj where
 ao:Int
 aK:Int
 aO:Int
 ab:aa
 bu:Int
 af:ai
 an:ai
 aH:ai
 bo:Int
 bC:Int
@[simp] theorem aj.eta (x:aj):aj.mk x.ao x.aK x.aO x.ab x.bu x.af x.an x.aH x.bo x.bC=x:=rfl
structure ae where
 ao:Int
 aK:Int
 aO:Int
 ab:aa
 aY:Int
 af:ai
 an:ai
 aH:ai
 aw:ai
 bo:Int
 bC:Int
 bQ:ByteArray
 aI:(List aj)
@[simp] theorem ae.eta (x:ae):ae.mk x.ao x.aK x.aO x.ab x.aY x.af x.an x.aH x.aw x.bo x.bC x.bQ x.aI=x:=rfl
structure ep where
 ah:Int
 lg:Int
@[simp] theorem ep.eta (x:ep):ep.mk x.ah x.lg=x:=rfl
structure bG where
 aW:aB
 aC:ae
 Timer:ep
 Round:Int
 Next:Int
 kK:Bool
 Value:ByteArray
@[simp] theorem bG.eta (x:bG):bG.mk x.aW x.aC x.Timer x.Round x.Next x.kK x.Value=x:=rfl
structure az where
 ao:Int
 fQ:Bool
 ab:aa
 aQ:(List bG)
@[simp] theorem az.eta (x:az):az.mk x.ao x.fQ x.ab x.aQ=x:=rfl
structure bM where
 bu:Int
 aK:Int
 aE:aN
 aD:aj
@[simp] theorem bM.eta (x:bM):bM.mk x.bu x.aK x.aE x.aD=x:=rfl
structure dv where
 lg:Int
 lu:Int
 To:Int
 Number:Int
 aF:bM
@[simp] theorem dv.eta (x:dv):dv.mk x.lg x.lu x.To x.Number x.aF=x:=rfl
structure bq where
 bh:(List dv)
 Next:Int
 hY:(List Int)
 eE:(List Int)
@[simp] theorem bq.eta (x:bq):bq.mk x.bh x.Next x.hY x.eE=x:=rfl
structure aS where
 Time:Int
 au:(List az)
 ox:Int
 Net:bq
 bO:(List (List aa))
@[simp] theorem aS.eta (x:aS):aS.mk x.Time x.au x.ox x.Net x.bO=x:=rfl
structure bK where
 ao:Int
 aK:Int
 Value:ByteArray
@[simp] theorem bK.eta (x:bK):bK.mk x.ao x.aK x.Value=x:=rfl
structure cv where
 L:(List Int)
 At:Int
@[simp] theorem cv.eta (x:cv):cv.mk x.L x.At=x:=rfl
structure aA where
 bX:Bool
 ab:aa
@[simp] theorem aA.eta (x:aA):aA.mk x.bX x.ab=x:=rfl
structure av where
 ay:(List aA)
@[simp] theorem av.eta (x:av):av.mk x.ay=x:=rfl
structure dx where
 bu:Int
 ao:Int
 To:Int
 aK:Int
 Count:Int
 Value:ByteArray
 ab:aa
 aF:bM
 hY:(List Int)
@[simp] theorem dx.eta (x:dx):dx.mk x.bu x.ao x.To x.aK x.Count x.Value x.ab x.aF x.hY=x:=rfl
structure wR where
 c0:Int
 c1:Int
@[simp] theorem wR.eta (x:wR):wR.mk x.c0 x.c1=x:=rfl
structure pa where
 yd:Int
 Value:Int
@[simp] theorem pa.eta (x:pa):pa.mk x.yd x.Value=x:=rfl
structure iE where
 ao:Int
 aO:Int
 ab:aa
 dw:(List pa)
 bB:(List pa)
@[simp] theorem iE.eta (x:iE):iE.mk x.ao x.aO x.ab x.dw x.bB=x:=rfl
structure pN where
 c0:ai
 c1:ai
@[simp] theorem pN.eta (x:pN):pN.mk x.c0 x.c1=x:=rfl
structure mo where
 ZY:Int
 Z1:Int
@[simp] theorem mo.eta (x:mo):mo.mk x.ZY x.Z1=x:=rfl
attribute [simp] aa.eta
inductive mq where
 |ab
 |aE
 |aW
 |af
 |aD
 |aC
 |Timer
 |aK
 |iQ
 |aF
 |pb
 |sQ
 |World
 |Outcome
 |Src
 |sy
 |Config
 |Step
 |sU
 |Claim
 |Message
 |nm
 |Ci
 deriving DecidableEq
inductive Ty where
 |i (k:IntKind)
 |bool
 |str
 |sl (t:Ty)
 |mp (a b:Ty)
 |st (n:mq)
def mq.den:mq->Type
 | .ab=>aa
 | .aE=>aN
 | .aW=>aB
 | .af=>ai
 | .aD=>aj
 | .aC=>ae
 | .Timer=>ep
 | .aK=>bG
 | .iQ=>az
 | .aF=>bM
 | .pb=>dv
 | .sQ=>bq
 | .World=>aS
 | .Outcome=>bK
 | .Src=>cv
 | .sy=>aA
 | .Config=>av
 | .Step=>dx
 | .sU=>wR
 | .Claim=>pa
 | .Message=>iE
 | .nm=>pN
 | .Ci=>mo
def Ty.den:Ty->Type
 | .i _=>Int
 | .bool=>Bool
 | .str=>ByteArray
 | .sl t=>List t.den
 | .mp a b=>List (a.den×b.den)
 | .st n=>n.den
def Ty.beq:Ty->Ty->Bool
 | .i k,.i k'=>decide (k=k')
 | .bool,.bool=>true
 | .str,.str=>true
 | .sl t,.sl t'=>Ty.beq t t'
 | .mp a b,.mp a' b'=>Ty.beq a a'&&Ty.beq b b'
 | .st n,.st n'=>decide (n=n')
 |_,_=>false
theorem Ty.eq_of_beq:∀{a b:Ty},Ty.beq a b=true->a=b
 | .i k,.i k',h=>by rw[of_decide_eq_true h]
 | .bool,.bool,_=>rfl
 | .str,.str,_=>rfl
 | .sl t,.sl t',h=>by rw[Ty.eq_of_beq (a:=t) (b:=t') h]
 | .mp a b,.mp a' b',h=>by
  rw[Ty.beq,Qm]at h;rw[Ty.eq_of_beq (a:=a) (b:=a') h.1,Ty.eq_of_beq (a:=b) (b:=b') h.2]
 | .st n,.st n',h=>by rw[of_decide_eq_true h]
 | .i _,.bool,h=>by cases h
 | .i _,.str,h=>by cases h
 | .i _,.sl _,h=>by cases h
 | .i _,.st _,h=>by cases h
 | .bool,.i _,h=>by cases h
 | .bool,.str,h=>by cases h
 | .bool,.sl _,h=>by cases h
 | .bool,.st _,h=>by cases h
 | .str,.i _,h=>by cases h
 | .str,.bool,h=>by cases h
 | .str,.sl _,h=>by cases h
 | .str,.st _,h=>by cases h
 | .sl _,.i _,h=>by cases h
 | .sl _,.bool,h=>by cases h
 | .sl _,.str,h=>by cases h
 | .sl _,.st _,h=>by cases h
 | .st _,.i _,h=>by cases h
 | .st _,.bool,h=>by cases h
 | .st _,.str,h=>by cases h
 | .st _,.sl _,h=>by cases h
 | .mp _ _,.i _,h=>by cases h
 | .i _,.mp _ _,h=>by cases h
 | .mp _ _,.bool,h=>by cases h
 | .bool,.mp _ _,h=>by cases h
 | .mp _ _,.str,h=>by cases h
 | .str,.mp _ _,h=>by cases h
 | .mp _ _,.sl _,h=>by cases h
 | .sl _,.mp _ _,h=>by cases h
 | .mp _ _,.st _,h=>by cases h
 | .st _,.mp _ _,h=>by cases h
theorem Ty.Fo:∀(a:Ty),Ty.beq a a=true
 | .i k=>Qg rfl
 | .bool=>rfl
 | .str=>rfl
 | .sl t=>Ty.Fo t
 | .mp a b=>by rw[Ty.beq,Ty.Fo a,Ty.Fo b];rfl
 | .st n=>Qg rfl
def Ty.VE(a b:Ty):Decidable (a=b):=
 match h:Ty.beq a b with
 |true=>isTrue (Ty.eq_of_beq h)
 |false=>isFalse fun e=>by rw[e,Ty.Fo]at h;cases h
@[reducible] def Cg:List Ty->Type
 |[]=>Unit
 |t::l=>t.den×Cg l
def mq.leaves:mq->List Ty
 | .ab=>[(Ty.i .i64),(Ty.sl (Ty.i .i64)),(Ty.sl (Ty.st .ab))]
 | .aE=>[(Ty.i .i64),(Ty.i .i64),(Ty.i .i64),(Ty.sl (Ty.i .i64)),(Ty.sl (Ty.st .ab)),(Ty.sl Ty.str),(Ty.sl Ty.str)]
 | .aW=>[(Ty.i .i64),(Ty.i .i64),(Ty.i .i64),(Ty.i .i64),(Ty.i .i64),(Ty.sl (Ty.i .i64)),(Ty.sl (Ty.st .ab)),Ty.str,(Ty.sl Ty.str),(Ty.sl Ty.str),(Ty.sl Ty.str),(Ty.sl (Ty.st .aE))]
 | .af=>[(Ty.i .i64),Ty.str]
 | .aD=>[(Ty.i .i64),(Ty.i .i64),(Ty.i .i64),(Ty.i .i64),(Ty.sl (Ty.i .i64)),(Ty.sl (Ty.st .ab)),(Ty.i .i64),(Ty.i .i64),Ty.str,(Ty.i .i64),Ty.str,(Ty.i .i64),Ty.str,(Ty.i .i64),(Ty.i .i64)]
 | .aC=>[(Ty.i .i64),(Ty.i .i64),(Ty.i .i64),(Ty.i .i64),(Ty.sl (Ty.i .i64)),(Ty.sl (Ty.st .ab)),(Ty.i .i64),(Ty.i .i64),Ty.str,(Ty.i .i64),Ty.str,(Ty.i .i64),Ty.str,(Ty.i .i64),Ty.str,(Ty.i .i64),(Ty.i .i64),Ty.str,(Ty.sl (Ty.st .aD))]
 | .Timer=>[(Ty.i .i64),(Ty.i .i64)]
 | .aK=>[(Ty.i .i64),(Ty.i .i64),(Ty.i .i64),(Ty.i .i64),(Ty.i .i64),(Ty.sl (Ty.i .i64)),(Ty.sl (Ty.st .ab)),Ty.str,(Ty.sl Ty.str),(Ty.sl Ty.str),(Ty.sl Ty.str),(Ty.sl (Ty.st .aE)),(Ty.i .i64),(Ty.i .i64),(Ty.i .i64),(Ty.i .i64),(Ty.sl (Ty.i .i64)),(Ty.sl (Ty.st .ab)),(Ty.i .i64),(Ty.i .i64),Ty.str,(Ty.i .i64),Ty.str,(Ty.i .i64),Ty.str,(Ty.i .i64),Ty.str,(Ty.i .i64),(Ty.i .i64),Ty.str,(Ty.sl (Ty.st .aD)),(Ty.i .i64),(Ty.i .i64),(Ty.i .i64),(Ty.i .i64),Ty.bool,Ty.str]
 | .iQ=>[(Ty.i .i64),Ty.bool,(Ty.i .i64),(Ty.sl (Ty.i .i64)),(Ty.sl (Ty.st .ab)),(Ty.sl (Ty.st .aK))]
 | .aF=>[(Ty.i .i64),(Ty.i .i64),(Ty.i .i64),(Ty.i .i64),(Ty.i .i64),(Ty.sl (Ty.i .i64)),(Ty.sl (Ty.st .ab)),(Ty.sl Ty.str),(Ty.sl Ty.str),(Ty.i .i64),(Ty.i .i64),(Ty.i .i64),(Ty.i .i64),(Ty.sl (Ty.i .i64)),(Ty.sl (Ty.st .ab)),(Ty.i .i64),(Ty.i .i64),Ty.str,(Ty.i .i64),Ty.str,(Ty.i .i64),Ty.str,(Ty.i .i64),(Ty.i .i64)]
 | .pb=>[(Ty.i .i64),(Ty.i .i64),(Ty.i .i64),(Ty.i .i64),(Ty.i .i64),(Ty.i .i64),(Ty.i .i64),(Ty.i .i64),(Ty.i .i64),(Ty.sl (Ty.i .i64)),(Ty.sl (Ty.st .ab)),(Ty.sl Ty.str),(Ty.sl Ty.str),(Ty.i .i64),(Ty.i .i64),(Ty.i .i64),(Ty.i .i64),(Ty.sl (Ty.i .i64)),(Ty.sl (Ty.st .ab)),(Ty.i .i64),(Ty.i .i64),Ty.str,(Ty.i .i64),Ty.str,(Ty.i .i64),Ty.str,(Ty.i .i64),(Ty.i .i64)]
 | .sQ=>[(Ty.sl (Ty.st .pb)),(Ty.i .i64),(Ty.sl (Ty.i .i64)),(Ty.sl (Ty.i .i64))]
 | .World=>[(Ty.i .i64),(Ty.sl (Ty.st .iQ)),(Ty.i .i64),(Ty.sl (Ty.st .pb)),(Ty.i .i64),(Ty.sl (Ty.i .i64)),(Ty.sl (Ty.i .i64)),(Ty.sl (Ty.sl (Ty.st .ab)))]
 | .Outcome=>[(Ty.i .i64),(Ty.i .i64),Ty.str]
 | .Src=>[(Ty.sl (Ty.i .i64)),(Ty.i .i64)]
 | .sy=>[Ty.bool,(Ty.i .i64),(Ty.sl (Ty.i .i64)),(Ty.sl (Ty.st .ab))]
 | .Config=>[(Ty.sl (Ty.st .sy))]
 | .Step=>[(Ty.i .i64),(Ty.i .i64),(Ty.i .i64),(Ty.i .i64),(Ty.i .i64),Ty.str,(Ty.i .i64),(Ty.sl (Ty.i .i64)),(Ty.sl (Ty.st .ab)),(Ty.i .i64),(Ty.i .i64),(Ty.i .i64),(Ty.i .i64),(Ty.i .i64),(Ty.sl (Ty.i .i64)),(Ty.sl (Ty.st .ab)),(Ty.sl Ty.str),(Ty.sl Ty.str),(Ty.i .i64),(Ty.i .i64),(Ty.i .i64),(Ty.i .i64),(Ty.sl (Ty.i .i64)),(Ty.sl (Ty.st .ab)),(Ty.i .i64),(Ty.i .i64),Ty.str,(Ty.i .i64),Ty.str,(Ty.i .i64),Ty.str,(Ty.i .i64),(Ty.i .i64),(Ty.sl (Ty.i .i64))]
 | .sU=>[(Ty.i .i64),(Ty.i .i64)]
 | .Claim=>[(Ty.i .i64),(Ty.i .i64)]
 | .Message=>[(Ty.i .i64),(Ty.i .i64),(Ty.i .i64),(Ty.sl (Ty.i .i64)),(Ty.sl (Ty.st .ab)),(Ty.sl (Ty.st .Claim)),(Ty.sl (Ty.st .Claim))]
 | .nm=>[(Ty.i .i64),Ty.str,(Ty.i .i64),Ty.str]
 | .Ci=>[(Ty.i .i64),(Ty.i .i64)]
def mq.toL:(n:mq)->n.den->Cg n.leaves
 | .ab,(v:aa)=>(v.ar,v.au,v.aG,())
 | .aE,(v:aN)=>(v.ao,v.aO,v.ab.ar,v.ab.au,v.ab.aG,v.dw,v.bB,())
 | .aW,(v:aB)=>(v.ao,v.aK,v.Round,v.aO,v.ab.ar,v.ab.au,v.ab.aG,v.Ax,v.dw,v.bB,v.du,v.aI,())
 | .af,(v:ai)=>(v.ah,v.Value,())
 | .aD,(v:aj)=>(v.ao,v.aK,v.aO,v.ab.ar,v.ab.au,v.ab.aG,v.bu,v.af.ah,v.af.Value,v.an.ah,v.an.Value,v.aH.ah,v.aH.Value,v.bo,v.bC,())
 | .aC,(v:ae)=>(v.ao,v.aK,v.aO,v.ab.ar,v.ab.au,v.ab.aG,v.aY,v.af.ah,v.af.Value,v.an.ah,v.an.Value,v.aH.ah,v.aH.Value,v.aw.ah,v.aw.Value,v.bo,v.bC,v.bQ,v.aI,())
 | .Timer,(v:ep)=>(v.ah,v.lg,())
 | .aK,(v:bG)=>(v.aW.ao,v.aW.aK,v.aW.Round,v.aW.aO,v.aW.ab.ar,v.aW.ab.au,v.aW.ab.aG,v.aW.Ax,v.aW.dw,v.aW.bB,v.aW.du,v.aW.aI,v.aC.ao,v.aC.aK,v.aC.aO,v.aC.ab.ar,v.aC.ab.au,v.aC.ab.aG,v.aC.aY,v.aC.af.ah,v.aC.af.Value,v.aC.an.ah,v.aC.an.Value,v.aC.aH.ah,v.aC.aH.Value,v.aC.aw.ah,v.aC.aw.Value,v.aC.bo,v.aC.bC,v.aC.bQ,v.aC.aI,v.Timer.ah,v.Timer.lg,v.Round,v.Next,v.kK,v.Value,())
 | .iQ,(v:az)=>(v.ao,v.fQ,v.ab.ar,v.ab.au,v.ab.aG,v.aQ,())
 | .aF,(v:bM)=>(v.bu,v.aK,v.aE.ao,v.aE.aO,v.aE.ab.ar,v.aE.ab.au,v.aE.ab.aG,v.aE.dw,v.aE.bB,v.aD.ao,v.aD.aK,v.aD.aO,v.aD.ab.ar,v.aD.ab.au,v.aD.ab.aG,v.aD.bu,v.aD.af.ah,v.aD.af.Value,v.aD.an.ah,v.aD.an.Value,v.aD.aH.ah,v.aD.aH.Value,v.aD.bo,v.aD.bC,())
 | .pb,(v:dv)=>(v.lg,v.lu,v.To,v.Number,v.aF.bu,v.aF.aK,v.aF.aE.ao,v.aF.aE.aO,v.aF.aE.ab.ar,v.aF.aE.ab.au,v.aF.aE.ab.aG,v.aF.aE.dw,v.aF.aE.bB,v.aF.aD.ao,v.aF.aD.aK,v.aF.aD.aO,v.aF.aD.ab.ar,v.aF.aD.ab.au,v.aF.aD.ab.aG,v.aF.aD.bu,v.aF.aD.af.ah,v.aF.aD.af.Value,v.aF.aD.an.ah,v.aF.aD.an.Value,v.aF.aD.aH.ah,v.aF.aD.aH.Value,v.aF.aD.bo,v.aF.aD.bC,())
 | .sQ,(v:bq)=>(v.bh,v.Next,v.hY,v.eE,())
 | .World,(v:aS)=>(v.Time,v.au,v.ox,v.Net.bh,v.Net.Next,v.Net.hY,v.Net.eE,v.bO,())
 | .Outcome,(v:bK)=>(v.ao,v.aK,v.Value,())
 | .Src,(v:cv)=>(v.L,v.At,())
 | .sy,(v:aA)=>(v.bX,v.ab.ar,v.ab.au,v.ab.aG,())
 | .Config,(v:av)=>(v.ay,())
 | .Step,(v:dx)=>(v.bu,v.ao,v.To,v.aK,v.Count,v.Value,v.ab.ar,v.ab.au,v.ab.aG,v.aF.bu,v.aF.aK,v.aF.aE.ao,v.aF.aE.aO,v.aF.aE.ab.ar,v.aF.aE.ab.au,v.aF.aE.ab.aG,v.aF.aE.dw,v.aF.aE.bB,v.aF.aD.ao,v.aF.aD.aK,v.aF.aD.aO,v.aF.aD.ab.ar,v.aF.aD.ab.au,v.aF.aD.ab.aG,v.aF.aD.bu,v.aF.aD.af.ah,v.aF.aD.af.Value,v.aF.aD.an.ah,v.aF.aD.an.Value,v.aF.aD.aH.ah,v.aF.aD.aH.Value,v.aF.aD.bo,v.aF.aD.bC,v.hY,())
 | .sU,(v:wR)=>(v.c0,v.c1,())
 | .Claim,(v:pa)=>(v.yd,v.Value,())
 | .Message,(v:iE)=>(v.ao,v.aO,v.ab.ar,v.ab.au,v.ab.aG,v.dw,v.bB,())
 | .nm,(v:pN)=>(v.c0.ah,v.c0.Value,v.c1.ah,v.c1.Value,())
 | .Ci,(v:mo)=>(v.ZY,v.Z1,())
def mq.ofL:(n:mq)->Cg n.leaves->n.den
 | .ab,v=>(aa.mk v.1 v.2.1 v.2.2.1)
 | .aE,v=>(aN.mk v.1 v.2.1 (aa.mk v.2.2.1 v.2.2.2.1 v.2.2.2.2.1) v.2.2.2.2.2.1 v.2.2.2.2.2.2.1)
 | .aW,v=>(aB.mk v.1 v.2.1 v.2.2.1 v.2.2.2.1 (aa.mk v.2.2.2.2.1 v.2.2.2.2.2.1 v.2.2.2.2.2.2.1) v.2.2.2.2.2.2.2.1 v.2.2.2.2.2.2.2.2.1 v.2.2.2.2.2.2.2.2.2.1 v.2.2.2.2.2.2.2.2.2.2.1 v.2.2.2.2.2.2.2.2.2.2.2.1)
 | .af,v=>(ai.mk v.1 v.2.1)
 | .aD,v=>(aj.mk v.1 v.2.1 v.2.2.1 (aa.mk v.2.2.2.1 v.2.2.2.2.1 v.2.2.2.2.2.1) v.2.2.2.2.2.2.1 (ai.mk v.2.2.2.2.2.2.2.1 v.2.2.2.2.2.2.2.2.1) (ai.mk v.2.2.2.2.2.2.2.2.2.1 v.2.2.2.2.2.2.2.2.2.2.1) (ai.mk v.2.2.2.2.2.2.2.2.2.2.2.1 v.2.2.2.2.2.2.2.2.2.2.2.2.1) v.2.2.2.2.2.2.2.2.2.2.2.2.2.1 v.2.2.2.2.2.2.2.2.2.2.2.2.2.2.1)
 | .aC,v=>(ae.mk v.1 v.2.1 v.2.2.1 (aa.mk v.2.2.2.1 v.2.2.2.2.1 v.2.2.2.2.2.1) v.2.2.2.2.2.2.1 (ai.mk v.2.2.2.2.2.2.2.1 v.2.2.2.2.2.2.2.2.1) (ai.mk v.2.2.2.2.2.2.2.2.2.1 v.2.2.2.2.2.2.2.2.2.2.1) (ai.mk v.2.2.2.2.2.2.2.2.2.2.2.1 v.2.2.2.2.2.2.2.2.2.2.2.2.1) (ai.mk v.2.2.2.2.2.2.2.2.2.2.2.2.2.1 v.2.2.2.2.2.2.2.2.2.2.2.2.2.2.1) v.2.2.2.2.2.2.2.2.2.2.2.2.2.2.2.1 v.2.2.2.2.2.2.2.2.2.2.2.2.2.2.2.2.1 v.2.2.2.2.2.2.2.2.2.2.2.2.2.2.2.2.2.1 v.2.2.2.2.2.2.2.2.2.2.2.2.2.2.2.2.2.2.1)
 | .Timer,v=>(ep.mk v.1 v.2.1)
 | .aK,v=>(bG.mk (aB.mk v.1 v.2.1 v.2.2.1 v.2.2.2.1 (aa.mk v.2.2.2.2.1 v.2.2.2.2.2.1 v.2.2.2.2.2.2.1) v.2.2.2.2.2.2.2.1 v.2.2.2.2.2.2.2.2.1 v.2.2.2.2.2.2.2.2.2.1 v.2.2.2.2.2.2.2.2.2.2.1 v.2.2.2.2.2.2.2.2.2.2.2.1) (ae.mk v.2.2.2.2.2.2.2.2.2.2.2.2.1 v.2.2.2.2.2.2.2.2.2.2.2.2.2.1 v.2.2.2.2.2.2.2.2.2.2.2.2.2.2.1 (aa.mk v.2.2.2.2.2.2.2.2.2.2.2.2.2.2.2.1 v.2.2.2.2.2.2.2.2.2.2.2.2.2.2.2.2.1 v.2.2.2.2.2.2.2.2.2.2.2.2.2.2.2.2.2.1) v.2.2.2.2.2.2.2.2.2.2.2.2.2.2.2.2.2.2.1 (ai.mk v.2.2.2.2.2.2.2.2.2.2.2.2.2.2.2.2.2.2.2.1 v.2.2.2.2.2.2.2.2.2.2.2.2.2.2.2.2.2.2.2.2.1) (ai.mk v.2.2.2.2.2.2.2.2.2.2.2.2.2.2.2.2.2.2.2.2.2.1 v.2.2.2.2.2.2.2.2.2.2.2.2.2.2.2.2.2.2.2.2.2.2.1) (ai.mk v.2.2.2.2.2.2.2.2.2.2.2.2.2.2.2.2.2.2.2.2.2.2.2.1 v.2.2.2.2.2.2.2.2.2.2.2.2.2.2.2.2.2.2.2.2.2.2.2.2.1) (ai.mk v.2.2.2.2.2.2.2.2.2.2.2.2.2.2.2.2.2.2.2.2.2.2.2.2.2.1 v.2.2.2.2.2.2.2.2.2.2.2.2.2.2.2.2.2.2.2.2.2.2.2.2.2.2.1) v.2.2.2.2.2.2.2.2.2.2.2.2.2.2.2.2.2.2.2.2.2.2.2.2.2.2.2.1 v.2.2.2.2.2.2.2.2.2.2.2.2.2.2.2.2.2.2.2.2.2.2.2.2.2.2.2.2.1 v.2.2.2.2.2.2.2.2.2.2.2.2.2.2.2.2.2.2.2.2.2.2.2.2.2.2.2.2.2.1 v.2.2.2.2.2.2.2.2.2.2.2.2.2.2.2.2.2.2.2.2.2.2.2.2.2.2.2.2.2.2.1) (ep.mk v.2.2.2.2.2.2.2.2.2.2.2.2.2.2.2.2.2.2.2.2.2.2.2.2.2.2.2.2.2.2.2.1 v.2.2.2.2.2.2.2.2.2.2.2.2.2.2.2.2.2.2.2.2.2.2.2.2.2.2.2.2.2.2.2.2.1) v.2.2.2.2.2.2.2.2.2.2.2.2.2.2.2.2.2.2.2.2.2.2.2.2.2.2.2.2.2.2.2.2.2.1 v.2.2.2.2.2.2.2.2.2.2.2.2.2.2.2.2.2.2.2.2.2.2.2.2.2.2.2.2.2.2.2.2.2.2.1 v.2.2.2.2.2.2.2.2.2.2.2.2.2.2.2.2.2.2.2.2.2.2.2.2.2.2.2.2.2.2.2.2.2.2.2.1 v.2.2.2.2.2.2.2.2.2.2.2.2.2.2.2.2.2.2.2.2.2.2.2.2.2.2.2.2.2.2.2.2.2.2.2.2.1)
 | .iQ,v=>(az.mk v.1 v.2.1 (aa.mk v.2.2.1 v.2.2.2.1 v.2.2.2.2.1) v.2.2.2.2.2.1)
 | .aF,v=>(bM.mk v.1 v.2.1 (aN.mk v.2.2.1 v.2.2.2.1 (aa.mk v.2.2.2.2.1 v.2.2.2.2.2.1 v.2.2.2.2.2.2.1) v.2.2.2.2.2.2.2.1 v.2.2.2.2.2.2.2.2.1) (aj.mk v.2.2.2.2.2.2.2.2.2.1 v.2.2.2.2.2.2.2.2.2.2.1 v.2.2.2.2.2.2.2.2.2.2.2.1 (aa.mk v.2.2.2.2.2.2.2.2.2.2.2.2.1 v.2.2.2.2.2.2.2.2.2.2.2.2.2.1 v.2.2.2.2.2.2.2.2.2.2.2.2.2.2.1) v.2.2.2.2.2.2.2.2.2.2.2.2.2.2.2.1 (ai.mk v.2.2.2.2.2.2.2.2.2.2.2.2.2.2.2.2.1 v.2.2.2.2.2.2.2.2.2.2.2.2.2.2.2.2.2.1) (ai.mk v.2.2.2.2.2.2.2.2.2.2.2.2.2.2.2.2.2.2.1 v.2.2.2.2.2.2.2.2.2.2.2.2.2.2.2.2.2.2.2.1) (ai.mk v.2.2.2.2.2.2.2.2.2.2.2.2.2.2.2.2.2.2.2.2.1 v.2.2.2.2.2.2.2.2.2.2.2.2.2.2.2.2.2.2.2.2.2.1) v.2.2.2.2.2.2.2.2.2.2.2.2.2.2.2.2.2.2.2.2.2.2.1 v.2.2.2.2.2.2.2.2.2.2.2.2.2.2.2.2.2.2.2.2.2.2.2.1))
 | .pb,v=>(dv.mk v.1 v.2.1 v.2.2.1 v.2.2.2.1 (bM.mk v.2.2.2.2.1 v.2.2.2.2.2.1 (aN.mk v.2.2.2.2.2.2.1 v.2.2.2.2.2.2.2.1 (aa.mk v.2.2.2.2.2.2.2.2.1 v.2.2.2.2.2.2.2.2.2.1 v.2.2.2.2.2.2.2.2.2.2.1) v.2.2.2.2.2.2.2.2.2.2.2.1 v.2.2.2.2.2.2.2.2.2.2.2.2.1) (aj.mk v.2.2.2.2.2.2.2.2.2.2.2.2.2.1 v.2.2.2.2.2.2.2.2.2.2.2.2.2.2.1 v.2.2.2.2.2.2.2.2.2.2.2.2.2.2.2.1 (aa.mk v.2.2.2.2.2.2.2.2.2.2.2.2.2.2.2.2.1 v.2.2.2.2.2.2.2.2.2.2.2.2.2.2.2.2.2.1 v.2.2.2.2.2.2.2.2.2.2.2.2.2.2.2.2.2.2.1) v.2.2.2.2.2.2.2.2.2.2.2.2.2.2.2.2.2.2.2.1 (ai.mk v.2.2.2.2.2.2.2.2.2.2.2.2.2.2.2.2.2.2.2.2.1 v.2.2.2.2.2.2.2.2.2.2.2.2.2.2.2.2.2.2.2.2.2.1) (ai.mk v.2.2.2.2.2.2.2.2.2.2.2.2.2.2.2.2.2.2.2.2.2.2.1 v.2.2.2.2.2.2.2.2.2.2.2.2.2.2.2.2.2.2.2.2.2.2.2.1) (ai.mk v.2.2.2.2.2.2.2.2.2.2.2.2.2.2.2.2.2.2.2.2.2.2.2.2.1 v.2.2.2.2.2.2.2.2.2.2.2.2.2.2.2.2.2.2.2.2.2.2.2.2.2.1) v.2.2.2.2.2.2.2.2.2.2.2.2.2.2.2.2.2.2.2.2.2.2.2.2.2.2.1 v.2.2.2.2.2.2.2.2.2.2.2.2.2.2.2.2.2.2.2.2.2.2.2.2.2.2.2.1)))
 | .sQ,v=>(bq.mk v.1 v.2.1 v.2.2.1 v.2.2.2.1)
 | .World,v=>(aS.mk v.1 v.2.1 v.2.2.1 (bq.mk v.2.2.2.1 v.2.2.2.2.1 v.2.2.2.2.2.1 v.2.2.2.2.2.2.1) v.2.2.2.2.2.2.2.1)
 | .Outcome,v=>(bK.mk v.1 v.2.1 v.2.2.1)
 | .Src,v=>(cv.mk v.1 v.2.1)
 | .sy,v=>(aA.mk v.1 (aa.mk v.2.1 v.2.2.1 v.2.2.2.1))
 | .Config,v=>(av.mk v.1)
 | .Step,v=>(dx.mk v.1 v.2.1 v.2.2.1 v.2.2.2.1 v.2.2.2.2.1 v.2.2.2.2.2.1 (aa.mk v.2.2.2.2.2.2.1 v.2.2.2.2.2.2.2.1 v.2.2.2.2.2.2.2.2.1) (bM.mk v.2.2.2.2.2.2.2.2.2.1 v.2.2.2.2.2.2.2.2.2.2.1 (aN.mk v.2.2.2.2.2.2.2.2.2.2.2.1 v.2.2.2.2.2.2.2.2.2.2.2.2.1 (aa.mk v.2.2.2.2.2.2.2.2.2.2.2.2.2.1 v.2.2.2.2.2.2.2.2.2.2.2.2.2.2.1 v.2.2.2.2.2.2.2.2.2.2.2.2.2.2.2.1) v.2.2.2.2.2.2.2.2.2.2.2.2.2.2.2.2.1 v.2.2.2.2.2.2.2.2.2.2.2.2.2.2.2.2.2.1) (aj.mk v.2.2.2.2.2.2.2.2.2.2.2.2.2.2.2.2.2.2.1 v.2.2.2.2.2.2.2.2.2.2.2.2.2.2.2.2.2.2.2.1 v.2.2.2.2.2.2.2.2.2.2.2.2.2.2.2.2.2.2.2.2.1 (aa.mk v.2.2.2.2.2.2.2.2.2.2.2.2.2.2.2.2.2.2.2.2.2.1 v.2.2.2.2.2.2.2.2.2.2.2.2.2.2.2.2.2.2.2.2.2.2.1 v.2.2.2.2.2.2.2.2.2.2.2.2.2.2.2.2.2.2.2.2.2.2.2.1) v.2.2.2.2.2.2.2.2.2.2.2.2.2.2.2.2.2.2.2.2.2.2.2.2.1 (ai.mk v.2.2.2.2.2.2.2.2.2.2.2.2.2.2.2.2.2.2.2.2.2.2.2.2.2.1 v.2.2.2.2.2.2.2.2.2.2.2.2.2.2.2.2.2.2.2.2.2.2.2.2.2.2.1) (ai.mk v.2.2.2.2.2.2.2.2.2.2.2.2.2.2.2.2.2.2.2.2.2.2.2.2.2.2.2.1 v.2.2.2.2.2.2.2.2.2.2.2.2.2.2.2.2.2.2.2.2.2.2.2.2.2.2.2.2.1) (ai.mk v.2.2.2.2.2.2.2.2.2.2.2.2.2.2.2.2.2.2.2.2.2.2.2.2.2.2.2.2.2.1 v.2.2.2.2.2.2.2.2.2.2.2.2.2.2.2.2.2.2.2.2.2.2.2.2.2.2.2.2.2.2.1) v.2.2.2.2.2.2.2.2.2.2.2.2.2.2.2.2.2.2.2.2.2.2.2.2.2.2.2.2.2.2.2.1 v.2.2.2.2.2.2.2.2.2.2.2.2.2.2.2.2.2.2.2.2.2.2.2.2.2.2.2.2.2.2.2.2.1)) v.2.2.2.2.2.2.2.2.2.2.2.2.2.2.2.2.2.2.2.2.2.2.2.2.2.2.2.2.2.2.2.2.2.1)
 | .sU,v=>(wR.mk v.1 v.2.1)
 | .Claim,v=>(pa.mk v.1 v.2.1)
 | .Message,v=>(iE.mk v.1 v.2.1 (aa.mk v.2.2.1 v.2.2.2.1 v.2.2.2.2.1) v.2.2.2.2.2.1 v.2.2.2.2.2.2.1)
 | .nm,v=>(pN.mk (ai.mk v.1 v.2.1) (ai.mk v.2.2.1 v.2.2.2.1))
 | .Ci,v=>(mo.mk v.1 v.2.1)
mutual
def eQ:aa->List PV
 |⟨a0,a1,a2⟩=>[.int .i64 a0,.sl (a1.map (fun x=>[.int .i64 x])),.sl (xy a2)]
def xy:List aa->List (List PV)
 |[]=>[]
 |x::l=>eQ x::xy l
end
theorem DK:∀(l:List aa),xy l=l.map eQ
 |[]=>by rw[xy];rfl
 |x::l=>by rw[xy,DK l];rfl
def yP(v:aN):List PV:=[.int .i64 v.ao,.int .i64 v.aO,.int .i64 v.ab.ar,.sl (v.ab.au.map (fun x=>[.int .i64 x])),.sl (v.ab.aG.map eQ),.sl (v.dw.map (fun x=>[.str x])),.sl (v.bB.map (fun x=>[.str x]))]
def Pk(v:aB):List PV:=[.int .i64 v.ao,.int .i64 v.aK,.int .i64 v.Round,.int .i64 v.aO,.int .i64 v.ab.ar,.sl (v.ab.au.map (fun x=>[.int .i64 x])),.sl (v.ab.aG.map eQ),.str v.Ax,.sl (v.dw.map (fun x=>[.str x])),.sl (v.bB.map (fun x=>[.str x])),.sl (v.du.map (fun x=>[.str x])),.sl (v.aI.map yP)]
def Wy(v:ai):List PV:=[.int .i64 v.ah,.str v.Value]
def BG(v:aj):List PV:=[.int .i64 v.ao,.int .i64 v.aK,.int .i64 v.aO,.int .i64 v.ab.ar,.sl (v.ab.au.map (fun x=>[.int .i64 x])),.sl (v.ab.aG.map eQ),.int .i64 v.bu,.int .i64 v.af.ah,.str v.af.Value,.int .i64 v.an.ah,.str v.an.Value,.int .i64 v.aH.ah,.str v.aH.Value,.int .i64 v.bo,.int .i64 v.bC]
def Uo(v:ae):List PV:=[.int .i64 v.ao,.int .i64 v.aK,.int .i64 v.aO,.int .i64 v.ab.ar,.sl (v.ab.au.map (fun x=>[.int .i64 x])),.sl (v.ab.aG.map eQ),.int .i64 v.aY,.int .i64 v.af.ah,.str v.af.Value,.int .i64 v.an.ah,.str v.an.Value,.int .i64 v.aH.ah,.str v.aH.Value,.int .i64 v.aw.ah,.str v.aw.Value,.int .i64 v.bo,.int .i64 v.bC,.str v.bQ,.sl (v.aI.map BG)]
def Yv(v:ep):List PV:=[.int .i64 v.ah,.int .i64 v.lg]
def RO(v:bG):List PV:=[.int .i64 v.aW.ao,.int .i64 v.aW.aK,.int .i64 v.aW.Round,.int .i64 v.aW.aO,.int .i64 v.aW.ab.ar,.sl (v.aW.ab.au.map (fun x=>[.int .i64 x])),.sl (v.aW.ab.aG.map eQ),.str v.aW.Ax,.sl (v.aW.dw.map (fun x=>[.str x])),.sl (v.aW.bB.map (fun x=>[.str x])),.sl (v.aW.du.map (fun x=>[.str x])),.sl (v.aW.aI.map yP),.int .i64 v.aC.ao,.int .i64 v.aC.aK,.int .i64 v.aC.aO,.int .i64 v.aC.ab.ar,.sl (v.aC.ab.au.map (fun x=>[.int .i64 x])),.sl (v.aC.ab.aG.map eQ),.int .i64 v.aC.aY,.int .i64 v.aC.af.ah,.str v.aC.af.Value,.int .i64 v.aC.an.ah,.str v.aC.an.Value,.int .i64 v.aC.aH.ah,.str v.aC.aH.Value,.int .i64 v.aC.aw.ah,.str v.aC.aw.Value,.int .i64 v.aC.bo,.int .i64 v.aC.bC,.str v.aC.bQ,.sl (v.aC.aI.map BG),.int .i64 v.Timer.ah,.int .i64 v.Timer.lg,.int .i64 v.Round,.int .i64 v.Next,.bool v.kK,.str v.Value]
def CB(v:az):List PV:=[.int .i64 v.ao,.bool v.fQ,.int .i64 v.ab.ar,.sl (v.ab.au.map (fun x=>[.int .i64 x])),.sl (v.ab.aG.map eQ),.sl (v.aQ.map RO)]
def Ww(v:bM):List PV:=[.int .i64 v.bu,.int .i64 v.aK,.int .i64 v.aE.ao,.int .i64 v.aE.aO,.int .i64 v.aE.ab.ar,.sl (v.aE.ab.au.map (fun x=>[.int .i64 x])),.sl (v.aE.ab.aG.map eQ),.sl (v.aE.dw.map (fun x=>[.str x])),.sl (v.aE.bB.map (fun x=>[.str x])),.int .i64 v.aD.ao,.int .i64 v.aD.aK,.int .i64 v.aD.aO,.int .i64 v.aD.ab.ar,.sl (v.aD.ab.au.map (fun x=>[.int .i64 x])),.sl (v.aD.ab.aG.map eQ),.int .i64 v.aD.bu,.int .i64 v.aD.af.ah,.str v.aD.af.Value,.int .i64 v.aD.an.ah,.str v.aD.an.Value,.int .i64 v.aD.aH.ah,.str v.aD.aH.Value,.int .i64 v.aD.bo,.int .i64 v.aD.bC]
def EE(v:dv):List PV:=[.int .i64 v.lg,.int .i64 v.lu,.int .i64 v.To,.int .i64 v.Number,.int .i64 v.aF.bu,.int .i64 v.aF.aK,.int .i64 v.aF.aE.ao,.int .i64 v.aF.aE.aO,.int .i64 v.aF.aE.ab.ar,.sl (v.aF.aE.ab.au.map (fun x=>[.int .i64 x])),.sl (v.aF.aE.ab.aG.map eQ),.sl (v.aF.aE.dw.map (fun x=>[.str x])),.sl (v.aF.aE.bB.map (fun x=>[.str x])),.int .i64 v.aF.aD.ao,.int .i64 v.aF.aD.aK,.int .i64 v.aF.aD.aO,.int .i64 v.aF.aD.ab.ar,.sl (v.aF.aD.ab.au.map (fun x=>[.int .i64 x])),.sl (v.aF.aD.ab.aG.map eQ),.int .i64 v.aF.aD.bu,.int .i64 v.aF.aD.af.ah,.str v.aF.aD.af.Value,.int .i64 v.aF.aD.an.ah,.str v.aF.aD.an.Value,.int .i64 v.aF.aD.aH.ah,.str v.aF.aD.aH.Value,.int .i64 v.aF.aD.bo,.int .i64 v.aF.aD.bC]
def Um(v:bq):List PV:=[.sl (v.bh.map EE),.int .i64 v.Next,.sl (v.hY.map (fun x=>[.int .i64 x])),.sl (v.eE.map (fun x=>[.int .i64 x]))]
def Yu(v:aS):List PV:=[.int .i64 v.Time,.sl (v.au.map CB),.int .i64 v.ox,.sl (v.Net.bh.map EE),.int .i64 v.Net.Next,.sl (v.Net.hY.map (fun x=>[.int .i64 x])),.sl (v.Net.eE.map (fun x=>[.int .i64 x])),.sl (v.bO.map (fun x=>[.sl (x.map eQ)]))]
def Ul(v:bK):List PV:=[.int .i64 v.ao,.int .i64 v.aK,.str v.Value]
def acZ(v:cv):List PV:=[.sl (v.L.map (fun x=>[.int .i64 x])),.int .i64 v.At]
def Ll(v:aA):List PV:=[.bool v.bX,.int .i64 v.ab.ar,.sl (v.ab.au.map (fun x=>[.int .i64 x])),.sl (v.ab.aG.map eQ)]
def Wx(v:av):List PV:=[.sl (v.ay.map Ll)]
def aav(v:dx):List PV:=[.int .i64 v.bu,.int .i64 v.ao,.int .i64 v.To,.int .i64 v.aK,.int .i64 v.Count,.str v.Value,.int .i64 v.ab.ar,.sl (v.ab.au.map (fun x=>[.int .i64 x])),.sl (v.ab.aG.map eQ),.int .i64 v.aF.bu,.int .i64 v.aF.aK,.int .i64 v.aF.aE.ao,.int .i64 v.aF.aE.aO,.int .i64 v.aF.aE.ab.ar,.sl (v.aF.aE.ab.au.map (fun x=>[.int .i64 x])),.sl (v.aF.aE.ab.aG.map eQ),.sl (v.aF.aE.dw.map (fun x=>[.str x])),.sl (v.aF.aE.bB.map (fun x=>[.str x])),.int .i64 v.aF.aD.ao,.int .i64 v.aF.aD.aK,.int .i64 v.aF.aD.aO,.int .i64 v.aF.aD.ab.ar,.sl (v.aF.aD.ab.au.map (fun x=>[.int .i64 x])),.sl (v.aF.aD.ab.aG.map eQ),.int .i64 v.aF.aD.bu,.int .i64 v.aF.aD.af.ah,.str v.aF.aD.af.Value,.int .i64 v.aF.aD.an.ah,.str v.aF.aD.an.Value,.int .i64 v.aF.aD.aH.ah,.str v.aF.aD.aH.Value,.int .i64 v.aF.aD.bo,.int .i64 v.aF.aD.bC,.sl (v.hY.map (fun x=>[.int .i64 x]))]
def Up(v:wR):List PV:=[.int .i64 v.c0,.int .i64 v.c1]
def Gw(v:pa):List PV:=[.int .i64 v.yd,.int .i64 v.Value]
def Un(v:iE):List PV:=[.int .i64 v.ao,.int .i64 v.aO,.int .i64 v.ab.ar,.sl (v.ab.au.map (fun x=>[.int .i64 x])),.sl (v.ab.aG.map eQ),.sl (v.dw.map Gw),.sl (v.bB.map Gw)]
def Nl(v:pN):List PV:=[.int .i64 v.c0.ah,.str v.c0.Value,.int .i64 v.c1.ah,.str v.c1.Value]
def aaw(v:mo):List PV:=[.int .i64 v.ZY,.int .i64 v.Z1]
def mq.pv:(n:mq)->n.den->List PV
 | .ab,v=>eQ v
 | .aE,v=>yP v
 | .aW,v=>Pk v
 | .af,v=>Wy v
 | .aD,v=>BG v
 | .aC,v=>Uo v
 | .Timer,v=>Yv v
 | .aK,v=>RO v
 | .iQ,v=>CB v
 | .aF,v=>Ww v
 | .pb,v=>EE v
 | .sQ,v=>Um v
 | .World,v=>Yu v
 | .Outcome,v=>Ul v
 | .Src,v=>acZ v
 | .sy,v=>Ll v
 | .Config,v=>Wx v
 | .Step,v=>aav v
 | .sU,v=>Up v
 | .Claim,v=>Gw v
 | .Message,v=>Un v
 | .nm,v=>Nl v
 | .Ci,v=>aaw v
def Ty.isAgg:Ty->Bool
 | .st _=>true
 |_=>false
def abK(t:Ty)(cs:List PV):PV:=match t.isAgg with|true=> .agg cs|false=>cs.headD .any
def Ty.pv:(t:Ty)->t.den->List PV
 | .i k,n=>[.int k n]
 | .bool,b=>[.bool b]
 | .str,s=>[.str s]
 | .sl t,(xs:List t.den)=>[.sl (xs.map (Ty.pv t))]
 | .mp a b,(xs:List (a.den×b.den))=>[.jg (xs.map fun p=>abK a (Ty.pv a p.1)) (xs.map fun p=>abK b (Ty.pv b p.2))]
 | .st n,v=>n.pv v
def xG:(ls:List Ty)->Cg ls->List PV
 |[],_=>[]
 |t::l,v=>t.pv v.1++xG l v.2
theorem mq.Lj:∀(n:mq) (v:n.den),n.pv v=xG n.leaves (n.toL v)
 | .ab,v=>by cases v;simp only[mq.pv,eQ,DK];rfl
 | .aE,v=>rfl
 | .aW,v=>rfl
 | .af,v=>rfl
 | .aD,v=>rfl
 | .aC,v=>rfl
 | .Timer,v=>rfl
 | .aK,v=>rfl
 | .iQ,v=>rfl
 | .aF,v=>rfl
 | .pb,v=>rfl
 | .sQ,v=>rfl
 | .World,v=>rfl
 | .Outcome,v=>rfl
 | .Src,v=>rfl
 | .sy,v=>rfl
 | .Config,v=>rfl
 | .Step,v=>rfl
 | .sU,v=>rfl
 | .Claim,v=>rfl
 | .Message,v=>rfl
 | .nm,v=>rfl
 | .Ci,v=>rfl
def Ty.leaf:Ty->Bool
 | .st _=>false
 |_=>true
theorem mq.Ih:∀(n:mq),n.leaves.all Ty.leaf=true
 | .ab=>rfl
 | .aE=>rfl
 | .aW=>rfl
 | .af=>rfl
 | .aD=>rfl
 | .aC=>rfl
 | .Timer=>rfl
 | .aK=>rfl
 | .iQ=>rfl
 | .aF=>rfl
 | .pb=>rfl
 | .sQ=>rfl
 | .World=>rfl
 | .Outcome=>rfl
 | .Src=>rfl
 | .sy=>rfl
 | .Config=>rfl
 | .Step=>rfl
 | .sU=>rfl
 | .Claim=>rfl
 | .Message=>rfl
 | .nm=>rfl
 | .Ci=>rfl
theorem mq.agn:∀(n:mq) (v:Cg n.leaves),n.toL (n.ofL v)=v
 | .ab,v=>rfl
 | .aE,v=>rfl
 | .aW,v=>rfl
 | .af,v=>rfl
 | .aD,v=>rfl
 | .aC,v=>rfl
 | .Timer,v=>rfl
 | .aK,v=>rfl
 | .iQ,v=>rfl
 | .aF,v=>rfl
 | .pb,v=>rfl
 | .sQ,v=>rfl
 | .World,v=>rfl
 | .Outcome,v=>rfl
 | .Src,v=>rfl
 | .sy,v=>rfl
 | .Config,v=>rfl
 | .Step,v=>rfl
 | .sU,v=>rfl
 | .Claim,v=>rfl
 | .Message,v=>rfl
 | .nm,v=>rfl
 | .Ci,v=>rfl
def Ty.WK:Ty->Bool
 | .sl _=>false
 | .mp _ _=>false
 |_=>true
@[reducible] def U:TU where
 Ty:=Ty
 VE:=Ty.VE
 den:=Ty.den
 pv:=Ty.pv
 size:=fun t=>match t with| .st n=>n.leaves.length|_=>1
 agg:=Ty.isAgg
 plain:=fun t=>match t with| .st n=>n.leaves.all Ty.WK|t=>t.WK
def EX:(t:Ty)->t.den->KV U
 | .i k,n=> .int k n
 | .bool,b=> .bool b
 | .str,s=> .str s
 | .sl t,(xs:List t.den)=> .sl t xs
 | .mp a b,(xs:List (a.den×b.den))=> .jg a b xs
 | .st _,_=> .any
def Ig:(ls:List Ty)->Cg ls->List (KV U)
 |[],_=>[]
 |t::l,v=>EX t v.1::Ig l v.2
def afC:(t:Ty)->t.den->List (KV U)
 | .st n,v=>Ig n.leaves (n.toL v)
 | .i k,v=>[EX (.i k) v]
 | .bool,v=>[EX .bool v]
 | .str,v=>[EX .str v]
 | .sl t,v=>[EX (.sl t) v]
 | .mp a b,v=>[EX (.mp a b) v]
def zd(lk:Lk U):(t:Ty)->KV U->Option t.den
 | .i k,x=>abb k x
 | .bool,x=>Hp x
 | .str,x=>aa9 x
 | .sl t,x=>TC (U:=U) lk t x
 | .mp a b,x=>aba (U:=U) a b x
 | .st _,_=>none
def An(lk:Lk U):(ls:List Ty)->List (KV U)->Option (Cg ls)
 |[],cs=>match cs with|[]=>some ()|_=>none
 |t::l,cs=>match cs with
  |c::cs=>(match zd lk t c with
   |some v=>(match An lk l cs with|some vs=>some (v,vs)|none=>none)
   |none=>none)
  |[]=>none
def KE{α:Type}(f:KV U->Option α):List (KV U)->Option α
 |[x]=>f x
 |_=>none
def ah8:(t:Ty)->Lk U->List (KV U)->Option t.den
 | .st n,lk,cs=>(match An lk n.leaves cs with|some v=>some (n.ofL v)|none=>none)
 | .i k,lk,cs=>KE (zd lk (.i k)) cs
 | .bool,lk,cs=>KE (zd lk .bool) cs
 | .str,lk,cs=>KE (zd lk .str) cs
 | .sl t,lk,cs=>KE (zd lk (.sl t)) cs
 | .mp a b,lk,cs=>KE (zd lk (.mp a b)) cs
theorem aaR:∀(t:Ty) (v:t.den),t.leaf=true->[(EX t v).pv]=t.pv v
 | .i k,v,_=>rfl
 | .bool,v,_=>rfl
 | .str,v,_=>rfl
 | .sl t,v,_=>rfl
 | .mp a b,v,_=>rfl
 | .st _,_,h=>by cases h
theorem LS:∀(ls:List Ty) (v:Cg ls),ls.all Ty.leaf=true->(Ig ls v).map KV.pv=xG ls v
 |[],_,_=>rfl
 |t::l,v,h=>by
  rw[Qq69,Qm]at h;rw[Ig,xG,QD,LS l v.2 h.2,<-aaR t v.1 h.1];rfl
theorem u0{lk:Lk U}:∀{t:Ty} {x:KV U} {v:t.den},zd lk t x=some v->gM lk [x] (t.pv v)
 | .i k,x,v,h=> .cons (ad5 h) .nil
 | .bool,x,v,h=> .cons (ad7 h) .nil
 | .str,x,v,h=> .cons (ad2 h) .nil
 | .sl t,x,v,h=> .cons (ad4 (U:=U) h) .nil
 | .mp a b,x,v,h=> .cons (ad3 (U:=U) h) .nil
 | .st _,_,_,h=>by cases h
theorem gM.cY{lk:Lk U}{x:KV U}{ys:List PV}{xs:List (KV U)}{zs:List PV}(h:gM lk [x] ys)(k:gM lk xs zs):gM lk (x::xs) (ys++zs):=by
 cases h with
 |cons h1 h2=>cases h2 with|nil=>exact .cons h1 k
theorem Ho{lk:Lk U}:∀{ls:List Ty} {cs:List (KV U)} {v:Cg ls},An lk ls cs=some v->gM lk cs (xG ls v)
 |[],[],_,_=> .nil
 |[],_::_,_,h=>by cases h
 |_::_,[],_,h=>by cases h
 |t::l,c::cs,v,h=>by
  rw[An]at h;split at h
  ·rename_i v1 h1;split at h
   ·rename_i vs h2;injection h with h
    subst h;exact(u0 h1).cY (Ho h2)
   ·cases h
  ·cases h
theorem D9{α:Type}{f:KV U->Option α}{cs:List (KV U)}{v:α}(h:KE f cs=some v):∃x,cs=[x]/\f x=some v:=by
 unfold KE at h;split at h
 ·exact⟨_,rfl,h⟩
 ·cases h
theorem Yt:∀(ls:List Ty) (v:Cg ls),ls.all Ty.leaf=true->(xG ls v).length=ls.length
 |[],_,_=>rfl
 |t::l,v,h=>by
  rw[Qq69,Qm]at h
  have:(t.pv v.1).length=1:=by
   cases t with
   |st n=>cases h.1
   |_=>rfl
  rw[xG,QB,Yt l v.2 h.2,this,QE,Nat.add_comm]
theorem kP:∀(t:Ty) (v:t.den),t.leaf=true->∀y∈t.pv v,y.eH=true/\(t.WK=true->y.plain=true)
 | .i k,v,_,y,h=>by simp only[Ty.pv,Q4]at h;subst h;exact⟨rfl,fun _=>rfl⟩
 | .bool,v,_,y,h=>by simp only[Ty.pv,Q4]at h;subst h;exact⟨rfl,fun _=>rfl⟩
 | .str,v,_,y,h=>by simp only[Ty.pv,Q4]at h;subst h;exact⟨rfl,fun _=>rfl⟩
 | .sl t,v,_,y,h=>by simp only[Ty.pv,Q4]at h;subst h;exact⟨rfl,fun h=>by cases h⟩
 | .mp a b,v,_,y,h=>by simp only[Ty.pv,Q4]at h;subst h;exact⟨rfl,fun h=>by cases h⟩
 | .st _,_,h,_,_=>by cases h
theorem Df:∀(ls:List Ty) (v:Cg ls),ls.all Ty.leaf=true->∀y∈xG ls v,y.eH=true/\(ls.all Ty.WK=true->y.plain=true)
 |[],_,_,y,h=>by cases h
 |t::l,v,h,y,hy=>by
  rw[Qq69,Qm]at h;rw[xG,Qz]at hy;rcases hy with hy|hy
  ·obtain⟨h1,h2⟩:=kP t v.1 h.1 y hy;exact⟨h1,fun hp=>by rw[Qq69,Qm]at hp;exact h2 hp.1⟩
  ·obtain⟨h1,h2⟩:=Df l v.2 h.2 y hy;exact⟨h1,fun hp=>by rw[Qq69,Qm]at hp;exact h2 hp.2⟩
def J3:mq->Option (IntKind×IntKind)
 | .Timer=>some (.i64,.i64)
 | .sU=>some (.i64,.i64)
 | .Claim=>some (.i64,.i64)
 | .Ci=>some (.i64,.i64)
 |_=>none
theorem Nu:∀(n:mq) (k l:IntKind),J3 n=some (k,l)->∀v,∃a b,afC (.st n) v=[.int k a,.int l b]
 | .Timer,_,_,h=>by injection h with h;injection h with h1 h2;subst h1 h2;exact fun v=>⟨_,_,rfl⟩
 | .sU,_,_,h=>by injection h with h;injection h with h1 h2;subst h1 h2;exact fun v=>⟨_,_,rfl⟩
 | .Claim,_,_,h=>by injection h with h;injection h with h1 h2;subst h1 h2;exact fun v=>⟨_,_,rfl⟩
 | .Ci,_,_,h=>by injection h with h;injection h with h1 h2;subst h1 h2;exact fun v=>⟨_,_,rfl⟩
 | .ab,_,_,h=>by cases h
 | .aE,_,_,h=>by cases h
 | .aW,_,_,h=>by cases h
 | .af,_,_,h=>by cases h
 | .aD,_,_,h=>by cases h
 | .aC,_,_,h=>by cases h
 | .aK,_,_,h=>by cases h
 | .iQ,_,_,h=>by cases h
 | .aF,_,_,h=>by cases h
 | .pb,_,_,h=>by cases h
 | .sQ,_,_,h=>by cases h
 | .World,_,_,h=>by cases h
 | .Outcome,_,_,h=>by cases h
 | .Src,_,_,h=>by cases h
 | .sy,_,_,h=>by cases h
 | .Config,_,_,h=>by cases h
 | .Step,_,_,h=>by cases h
 | .Message,_,_,h=>by cases h
 | .nm,_,_,h=>by cases h
def agm:List (Nat×Ty):=[(3,(Ty.i .i64)),(4,Ty.bool),(9,Ty.str),(44,(Ty.st .Outcome)),(65,(Ty.sl (Ty.st .ab))),(67,(Ty.st .ab)),(70,(Ty.st .sy)),(75,(Ty.st .iQ)),(81,(Ty.st .af)),(88,(Ty.st .aK)),(93,(Ty.st .aE)),(95,(Ty.st .aD)),(97,(Ty.st .aF)),(99,(Ty.st .Step)),(140,(Ty.st .pb)),(293,(Ty.st .Message)),(342,(Ty.st .Claim))]
def Yc(n:Nat):List (Nat×Ty)->Option Ty
 |[]=>none
 |(k,t)::l=>(match Nat.beq k n with|true=>some t|false=>Yc n l)
@[reducible] def K:TK U where
 eI:=afC
 dec:=ah8
 Nb:=fun n=>Yc n agm
 oX:=fun t v=>by
  cases t with
  |st n=>exact(LS _ _ n.Ih).trans (n.Lj v).symm
  |_=>rfl
 l9:=fun t lk cs v h=>by
  cases t with
  |st n=>
   change (match An lk n.leaves cs with|some v=>some (n.ofL v)|none=>none)=some v at h
   split at h
   ·rename_i u hu;injection h with h
    subst h;have:=Ho hu
    change gM lk cs (n.pv (n.ofL u))
    rw[n.Lj,n.agn];exact this
   ·cases h
  |i k=>obtain⟨x,rfl,hx⟩:=D9 h;exact u0 hx
  |bool=>obtain⟨x,rfl,hx⟩:=D9 h;exact u0 hx
  |str=>obtain⟨x,rfl,hx⟩:=D9 h;exact u0 hx
  |sl t=>obtain⟨x,rfl,hx⟩:=D9 h;exact u0 hx
  |mp a b=>obtain⟨x,rfl,hx⟩:=D9 h;exact u0 hx
 len:=fun t v=>by
  cases t with
  |st n=>exact(congrArg List.length (n.Lj v)).trans (Yt _ _ n.Ih)
  |_=>rfl
 eH:=fun t v y hy=>by
  cases t with
  |st n=>exact(Df _ (n.toL v) n.Ih y (Eq.mp (congrArg (y∈·) (n.Lj v)) hy)).1
  |i k=>exact(kP (.i k) v rfl y hy).1
  |bool=>exact(kP .bool v rfl y hy).1
  |str=>exact(kP .str v rfl y hy).1
  |sl t=>exact(kP (.sl t) v rfl y hy).1
  |mp a b=>exact(kP (.mp a b) v rfl y hy).1
 one:=fun t h=>by
  cases t with
  |st n=>cases h
  |_=>rfl
 plain:=fun t h v y hy=>by
  cases t with
  |st n=>exact(Df _ (n.toL v) n.Ih y (Eq.mp (congrArg (y∈·) (n.Lj v)) hy)).2 h
  |i k=>exact(kP (.i k) v rfl y hy).2 rfl
  |bool=>exact(kP .bool v rfl y hy).2 rfl
  |str=>exact(kP .str v rfl y hy).2 rfl
  |sl t=>cases h
  |mp a b=>cases h
 J3:=fun t=>match t with| .st n=>J3 n|_=>none
 Nu:=fun t k l h=>by
  cases t with
  |st n=>exact⟨rfl,Nu n k l h⟩
  |_=>cases h
end
section
open Go.RowKit
theorem UM{w:World}{a:Addr}{v:Value}(h:w.cell? a=some v):∃t n,w.shape? a.block=some (t,n+1):=by
 unfold World.cell? at h;unfold World.shape?;split at h
 ·rename_i c t fr hc;split at h
  ·cases h
  ·have hlt:=(Q8.1 h).1;exact⟨t,c.size - 1,by simp only[Qf,Prod.mk.injEq,true_and];omega⟩
 ·cases h
theorem JK{P:Program}(w:World)(tS tR e:TypeId)(ht:P.underlying tS=some (.slice e))(size:Nat)(hz:∀w,(Go.sizeOf e).run P w= .ok size w)
  (a b:Addr) (la ca lb cb:Nat) (hne:a.block≠b.block) {v:Value} (ha:w.cell? a=some v) {cur:Array Value} {t:TypeId} (hb:w.heap[b.block]?=some (.cells cur t (0,0))) (h0:cur.size≠0):
  (Extern.SlicesOverlaps.overlaps #[tS,tS] #[tR] #[.slice (some a) la ca,.slice (some b) lb cb]).run P w= .ok (.bool false) w:=by
 obtain⟨tA,kA,hsa⟩:=UM ha;have hsb:w.shape? b.block=some (t,cur.size):=by simp[World.shape?,hb]
 have hfb:w.frozen? b=false:=by simp[World.frozen?,hb]
 have hfe:w.frozen? {block:=b.block,off:=cur.size}=false:=by simp[World.frozen?,hb]
 have hnb:(a.block !=b.block)=true:=by simpa using hne
 have hnb':(a.block==b.block)=false:=by simpa using hne
 obtain⟨kB,hkB⟩:∃kB,cur.size=kB+1:=⟨cur.size - 1,by omega⟩
 rw[hkB]at hsb hfe
 change Sem.run P (α:=Value) (do
  let some t:=(#[tS,tS]:Array TypeId)[0]?|stuck "slices.overlaps: no parameter types"
  let .slice elem <-underlying t|stuck "slices.overlaps: slice type expected"
  let size <-sizeOf elem
  match(some a:Option Addr),(some b:Option Addr)with
  |some a,some b=>
   if la=0\/lb=0\/size=0 then pure (Value.bool false)
   else if a.block !=b.block&&(<-frozen a)&&(<-frozen b)then unsupported .addressObserved
   else do
    if a.block !=b.block then do
     noView a;noView b
     if<-mayBeOne a b then return Value.bool ((<-choose (.extern "sameAddr.stringBytes" 2))==1)
    pure (Value.bool (a.block==b.block&&a.off<b.off+lb*size&&b.off<a.off+la*size))
  |_,_=>pure (Value.bool false)) w=_
 by_cases h0:la=0\/lb=0\/size=0
 ·simp[run_underlying ht,hz,h0]
 ·cases hfa:w.frozen? a<;>cases hfk:w.frozen? {block:=a.block,off:=kA+1}<;>
   simp[run_underlying ht,hz,h0,hnb,hnb',frozen,noView,viewAt,mayBeOne,stringish,shape,Sem.run,hsa,hsb,hfa,hfk,hfb,hfe]
theorem ZT(a:Addr):a.add 0=a:=by
 cases a with
 |mk b o s=>unfold Addr.add;split<;>simp_all
theorem Fv(a:Addr)(n:Nat):(a.add n).block=a.block:=by unfold Addr.add;split<;>rfl
def qD{α:Type}(l:List α)(o:Nat)(c:List α):List α:=l.take o++c++l.drop (o+c.length)
theorem EF{α:Type}{l:List α}{o:Nat}{c:List α}(h:o+c.length<=l.length):(qD l o c).length=l.length:=by simp[qD];omega
theorem WC{α:Type}{l us ys:List α}{a:Nat}(h:a+us.length+ys.length<=l.length):qD (qD l a us) (a+us.length) ys=l.take a++us++ys++l.drop (a+us.length+ys.length):=by
 have h1:(l.take a++us).length=a+us.length:=by simp;omega
 have h2:(qD l a us).take (a+us.length)=l.take a++us:=by
  rw[qD,List.take_append_of_le_length (by omega),List.take_of_length_le (by omega)]
 have h3:(qD l a us).drop (a+us.length+ys.length)=l.drop (a+us.length+ys.length):=by
  rw[qD,<-List.drop_drop,<-h1,List.drop_left,List.drop_drop,h1]
 rw[qD,h2,h3]
theorem Uq{α:Type}{l us ys:List α}{a:Nat}(h:a+us.length+ys.length<=l.length):qD (qD l (a+us.length) ys) a us=l.take a++us++ys++l.drop (a+us.length+ys.length):=by
 have h1:(l.take (a+us.length)).length=a+us.length:=by simp;omega
 have h2:(qD l (a+us.length) ys).take a=l.take a:=by
  rw[qD,QL,List.take_append_of_le_length (by omega),List.take_take,Nat.min_eq_left (by omega)]
 have h3:(qD l (a+us.length) ys).drop (a+us.length)=ys++l.drop (a+us.length+ys.length):=by
  conv=>lhs;rw[qD,QL]
  exact List.drop_left' h1
 rw[qD,h2,h3,QL,QL,QL]
theorem vM(w:World)(g:Nat)(cs:Array Value){b:Nat}(h:b≠g):(w.setRow g cs).heap[b]?=w.heap[b]?:=by
 simp only[World.setRow,Array.getElem?_modify];rw[Qs (fun e=>h e.symm)]
theorem Oj(w:World)(g:Nat)(cs:Array Value):Fr (some g) w (w.setRow g cs):=⟨rfl,rfl,rfl,by simp[World.setRow],fun b _ hb=>vM w g cs (fun e=>hb (by rw[e])),DL.refl _⟩
theorem Fr.agV(w:World)(rb:Option Nat):Fr rb w w.drew:=⟨rfl,rfl,rfl,QI _,fun _ _ _=>rfl,DL.of (Nat.le_succ _)⟩
theorem Fr.trans'{rb:Option Nat}{a b c:World}(h:Fr rb a b)(k:Fr rb b c):Fr rb a c:=⟨k.os.trans h.os,k.tape.trans h.tape,k.output.trans h.output,QK h.size k.size,fun i hi hne=>(k.block i (QJ hi h.size) hne).trans (h.block i hi hne),h.drawn.trans k.drawn⟩
theorem JH{w w':World}{v u:Value}{X:Nat->Prop}(hf:Fr (cW v) w w')(hu:∀b,cW u=some b->cW v=some b\/w.heap.size<=b):dZ w w' (Mv v X) (Mv u X):=by
 have key:∀b,b<w.heap.size->¬Mv v X b->w'.heap[b]?=w.heap[b]?/\¬Mv u X b:=fun b hlt hM=>⟨hf.block b hlt fun h=>hM (.inl h),by
  rintro(h|h)
  ·rcases hu _ h with h|h
   ·exact hM (.inl h)
   ·omega
  ·exact hM (.inr h)⟩
 refine⟨fun a x hc hM=> ?_,fun b es ck hb hM=> ?_⟩
 ·have hlt:a.block<w.heap.size:=by
   by_cases h:a.block<w.heap.size
   ·exact h
   ·have:w.heap[a.block]?=none:=by rw[Array.getElem?_eq_none_iff];omega
    simp[World.cell?,this]at hc
  obtain⟨h1,h2⟩:=key _ hlt hM;exact⟨(World.cell?_of_block h1).trans hc,h2⟩
 ·obtain⟨h1,h2⟩:=key b (Q8.1 hb).1 hM;exact⟨h1.trans hb,h2⟩
theorem Rv{w:World}{M:Nat->Prop}{es:List (List PV)}{xs:List Value}(h:bg w M dX es.flatten xs)(h1:∀u∈es,u.all PV.one=true):∀x∈xs,x.oneCell'=true:=by
 intro x hx;obtain⟨q,hq,rfl⟩:=List.mem_iff_getElem.1 hx;have hl:q<es.flatten.length:=by rw[<-h.1];exact hq
 obtain⟨el,hel,hmem⟩:=List.mem_flatten.1 (QZ hl);exact((h.2 q _ _ (Qv hl) (Qv hq)).one (QH.1 (h1 el hel) _ hmem)).1
structure abz (P:Program) (f S E I B ov k bytes:Nat):Prop where
 aff:0<k
 hS:P.underlying S=some (.slice E)
 hI:P.underlying I=some (.int .i64)
 afj:∃(i:TypeInfo) (z:Value),P.info? E=some i/\i.zero=some z/\z.cells.size=k/\i.size=k/\i.bytes=bytes
 Dd:∀(x:Array Value) (w:World),(Extern.SlicesOverlaps.overlaps #[S,S] #[B] x).run P w= .ok (.bool false) w->(callFunc ov x).run P w= .ok (.value (.bool false)) w
 CD:∀(g n c i:Nat),i<=n->n<=c->c<=9223372036854775807->∀(u:Option Addr) (vc:Nat) (w:World),
  Calls P f #[.slice (some ⟨g,0,none⟩) n c,.int .i64 i,.slice u 0 vc] w fun e w'=>e= .returned (.slice (some ⟨g,0,none⟩) n c)/\w'=w
 ES:∀(u:Option Addr) (vc:Nat) (w:World),Calls P f #[.slice none 0 0,.int .i64 0,.slice u 0 vc] w fun e w'=>e= .returned (.slice none 0 0)/\w'=w
 MX:∀(g n c:Nat),n<=c->c<=9223372036854775807->∀(ad:Addr) (m vc:Nat),0<m->∀(w w1:World) (v1:Value),
  (∀ty,(Builtin.append_ #[S,S] ty #[.slice (some ⟨g,0,none⟩) n c,.slice (some ad) m vc]).run P w= .ok v1 w1)->
  Calls P f #[.slice (some ⟨g,0,none⟩) n c,.int .i64 n,.slice (some ad) m vc] w fun e w'=>e= .returned v1/\w'=w1
 Bk:∀(ad:Addr) (m vc:Nat),0<m->∀(w w1:World) (v1:Value),
  (∀ty,(Builtin.append_ #[S,S] ty #[.slice none 0 0,.slice (some ad) m vc]).run P w= .ok v1 w1)->
  Calls P f #[.slice none 0 0,.int .i64 0,.slice (some ad) m vc] w fun e w'=>e= .returned v1/\w'=w1
 shift:∀(g n c i:Nat),i<n->c<=9223372036854775807->∀(ad:Addr) (m vc:Nat),0<m->n+m<=c->∀(w w1 w2:World),
  (∀lb cb,(callFunc ov #[.slice (some ad) m vc,.slice (some ⟨g,(i+m)*k,none⟩) lb cb]).run P w= .ok (.value (.bool false)) w)->
  (∀ty dc sc,(Builtin.copy_ #[S,S] ty #[.slice (some ⟨g,(i+m)*k,none⟩) (n+m - (i+m)) dc,.slice (some ⟨g,i*k,none⟩) (n+m - i) sc]).run P w.drew= .ok (goInt (n - i:Nat)) w1)->
  (∀ty dc,(Builtin.copy_ #[S,S] ty #[.slice (some ⟨g,i*k,none⟩) (n+m - i) dc,.slice (some ad) m vc]).run P w1= .ok (goInt m) w2)->
  Calls P f #[.slice (some ⟨g,0,none⟩) n c,.int .i64 i,.slice (some ad) m vc] w fun e w'=>e= .returned (.slice (some ⟨g,0,none⟩) (n+m) c)/\w'=w2
 grow:∀(g n c i:Nat),i<n->n<=c->c<=9223372036854775807->∀(ad:Addr) (m vc:Nat),0<m->c<n+m->∀(N G:Nat),n+m<=G->G<=9223372036854775807->∀(w w1 w2 w3:World),
  (∀ty,(Builtin.append_ #[S,I] ty #[.slice (some ⟨g,0,none⟩) i c,.int .i64 ((n:Int)+(m:Int) - (i:Int))]).run P w= .ok (.slice (some ⟨N,0,none⟩) (n+m) G) w1)->
  (∀ty dc,(Builtin.copy_ #[S,S] ty #[.slice (some ⟨N,i*k,none⟩) (n+m - i) dc,.slice (some ad) m vc]).run P w1= .ok (goInt m) w2)->
  (∀ty dc sc,(Builtin.copy_ #[S,S] ty #[.slice (some ⟨N,(i+m)*k,none⟩) (n+m - (i+m)) dc,.slice (some ⟨g,i*k,none⟩) (n - i) sc]).run P w2.drew= .ok (goInt (n - i:Nat)) w3)->
  Calls P f #[.slice (some ⟨g,0,none⟩) n c,.int .i64 i,.slice (some ad) m vc] w fun e w'=>e= .returned (.slice (some ⟨N,0,none⟩) (n+m) G)/\w'=w3
theorem adC{P:Program}{E k bytes:Nat}(h:(P.info? E).map (fun i=>(i.zero.map (·.cells.size),i.size,i.bytes))=some (some k,k,bytes)):∃(i:TypeInfo) (z:Value),P.info? E=some i/\i.zero=some z/\z.cells.size=k/\i.size=k/\i.bytes=bytes:=by
 rw[Qb]at h;obtain⟨i,h1,h2⟩:=h;injection h2 with h2 h3
 injection h3 with h3 h4
 rw[Qb]at h2;obtain⟨z,h5,h6⟩:=h2;exact⟨i,z,h1,h5,h6,h3,h4⟩
theorem adB{P:Program}{f S E I B ov k bytes:Nat}(H:abz P f S E I B ov k bytes){es vs:List (List PV)}{i:Nat}(hi:i<=es.length)(h1e:∀u∈es,u.all PV.one=true)(hvs:∀u∈vs,u.length=k/\u.all PV.one=true)
  (hmax:es.length+vs.length<=maxLen) (hby:(es.length+vs.length)*bytes<=140737488355328):Uc P f E k es [.int .i64 i,.sl vs] (es.take i++vs++es.drop i):=by
 have hk0:=H.aff;intro w X hX v args hvX ⟨xs,hown,hke,hr⟩ hargs;obtain⟨a1,args,rfl,ha1,hargs⟩:=hargs.cons_inv;obtain⟨a2,args,rfl,ha2,hargs⟩:=hargs.cons_inv;obtain rfl:=hargs.qG;obtain rfl:=ha1.eV;obtain⟨inf,z,hi1,hi2,hi3,hi4,hi5⟩:=H.afj;have hsz:(P.info? E).map (·.size)=some k:=by rw[hi1];simp[hi4]
 have hmem:∀u∈es.take i++vs++es.drop i,u.length=k:=by
  intro u hu;rw[Qz,Qz]at hu;rcases hu with(hu|hu)|hu
  ·exact hke u (Q0 hu)
  ·exact(hvs u hu).1
  ·exact hke u (Q1 hu)
 have same:vs=[]->es.take i++vs++es.drop i=es:=fun h=>by rw[h];simp
 by_cases hm0:vs=[]
 ·rw[same hm0]
  have hz:∃u vc,a2= .slice u 0 vc:=by
   subst hm0;rcases ha2.BA with⟨h,_⟩|⟨ad,c,_,_,h,_⟩
   ·exact⟨_,_,h⟩
   ·exact⟨_,_,h⟩
  obtain⟨u,vc,rfl⟩:=hz
  have post:∀(e:Ending) (w':World),e= .returned v/\w'=w->∃u,e= .returned u/\C0 w' (Mv u X) E k u es/\(∀b,cW u=some b->cW v=some b\/w.heap.size<=b)/\Fr (cW v) w w':=by
   rintro e w' ⟨rfl,rfl⟩;exact⟨v,rfl,⟨xs,hown,hke,hr⟩,fun b hb=> .inl hb,Fr.refl _ _⟩
  rcases hown.2 with⟨rfl,h0⟩|⟨g,cap,cur,rfl,_,hg,hnc,hcm,hcs,htk⟩
  ·obtain rfl:i=0:=by omega
   exact(H.ES u vc w).mono fun e w' h=>post e w' h
  ·exact(H.CD g es.length cap i hi hnc (by simp only[maxLen]at hcm;omega) u vc w).mono fun e w' h=>post e w' h
 ·
  have hm:0<vs.length:=List.length_pos_iff.2 hm0;rcases ha2.BA with⟨_,h⟩|⟨ad,vc,k',us,rfl,hk',hru,hcu,_,_⟩
  ·exact absurd h hm0
  have hul:us.length=vs.length*k:=by rw[hru.1,lO vs k fun u hu=>(hvs u hu).1]
  have hone:=Rv hru fun u hu=>(hvs u hu).2
  have hpos:0<us.length:=by rw[hul];exact Nat.mul_pos hm hk0
  obtain⟨c0,hc0⟩:∃c0,us[0]?=some c0:=⟨_,Qv hpos⟩;obtain⟨had,hadM⟩:=hcu 0 c0 hc0;have had:w.cell? ad=some c0:=by rw[ZT]at had;exact had
  have hcell:∀(j:Nat) (u:Value),us[j]?=some u->w.cell? (ad.add j)=some u:=fun j u hj=>(hcu j u hj).1
  have hadlt:ad.block<w.heap.size:=by
   by_cases h:ad.block<w.heap.size
   ·exact h
   ·have:w.heap[ad.block]?=none:=by rw[Array.getElem?_eq_none_iff];omega
    simp[World.cell?,this]at had
  have fin:∀(v1:Value) (w1:World),w1.ownsRow 0 E k v1 (es.length+vs.length) (xs++us)->w.grownBy w1 v.ownBlock->(v1.ownBlock=v.ownBlock\/v1.ownBlock=some w.heap.size)->(∃a n c,v= .slice a n c)->i=es.length->w.drawn<=w1.drawn->
    ∀(e:Ending) (w':World),e= .returned v1/\w'=w1->∃u,e= .returned u/\C0 w' (Mv u X) E k u (es.take i++vs++es.drop i)/\(∀b,cW u=some b->cW v=some b\/w.heap.size<=b)/\Fr (cW v) w w':=by
   rintro v1 w1 ho hgr hat ⟨a0,n0,c0,hv0⟩ hie hdr e w' ⟨rfl,rfl⟩;have hb0:v.ownBlock=cW v:=l6 hv0
   have hb1:v1.ownBlock=cW v1:=by
    rcases ho.2 with⟨h,_⟩|⟨_,_,_,h,_⟩
    ·exact l6 h
    ·exact l6 h
   have hfr:Fr (cW v) w w':=⟨hgr.os,hgr.tape,hgr.output,hgr.size,fun b hb hne=>hgr.block b hb (fun h=>hne (by rw[<-hb0,<-h])),DL.of hdr⟩
   have hub:∀b,cW v1=some b->cW v=some b\/w.heap.size<=b:=fun b hb=>by
    rw[<-hb1]at hb;rcases hat with h|h
    ·exact .inl (by rw[<-hb0,<-h];exact hb)
    ·rw[h]at hb;injection hb with hb;exact .inr (by omega)
   have he:es.take i++vs++es.drop i=es++vs:=by subst hie;simp
   rw[he]at hmem ⊢;refine⟨v1,rfl,⟨xs++us,by rw[QB];exact ho,hmem,?_⟩,hub,hfr⟩
   rw[List.flatten_append];exact(hr.append hru).mono (JH hfr hub) (dX.le _)
  rcases hown.2 with⟨rfl,h0⟩|⟨g,cap,cur,rfl,hb0,hg,hnc,hcm,hcs,htk⟩
  ·obtain rfl:i=0:=by omega
   obtain⟨v1,w1,r1,r2,r3,_,r5⟩:=run_append_own_at (P:=P) w 0 S 0 E inf z k bytes H.hS hi1 hi2 hi4 hi5 hi3 hk0 (.slice none 0 0) es.length xs hown ad vs.length vc us hul hcell hone hmax hby (QS _);exact(H.Bk ad vs.length vc hm w w1 v1 fun ty=>r1).mono fun e w' h=>fin v1 w1 r2 r3 r5 ⟨_,_,_,rfl⟩ h0.symm (B8 (P:=P) w 0 S 0 E inf z k bytes H.hS hi1 hi2 hi4 hi5 hk0 (.slice none 0 0) es.length xs hown ad vs.length vc us hul hcell hone hmax hby r1) e w' h
  ·have hcm':cap<=9223372036854775807:=by simp only[maxLen]at hcm;omega
   by_cases hie:i=es.length
   ·obtain⟨v1,w1,r1,r2,r3,_,r5⟩:=run_append_own_at (P:=P) w 0 S 0 E inf z k bytes H.hS hi1 hi2 hi4 hi5 hi3 hk0 _ es.length xs hown ad vs.length vc us hul hcell hone hmax hby (QS _);have:=H.MX g es.length cap hnc hcm' ad vs.length vc hm w w1 v1 fun ty=>r1
    rw[<-hie]at this ⊢;exact this.mono fun e w' h=>fin v1 w1 r2 r3 r5 ⟨_,_,_,rfl⟩ hie (B8 (P:=P) w 0 S 0 E inf z k bytes H.hS hi1 hi2 hi4 hi5 hk0 _ es.length xs hown ad vs.length vc us hul hcell hone hmax hby r1) e w' h
   ·have hin:i<es.length:=by omega
    have hM:∀b,Mv (.slice (some ⟨g,0,none⟩) es.length cap) X b->True:=fun _ _=>trivial
    have hne:ad.block≠g:=fun h=>hadM (.inl (by rw[h];rfl))
    have hglt:g<w.heap.size:=(Q8.1 hg).1;have hxl:xs.length=es.length*k:=hown.1;have hcl:es.length*k<=cur.toList.length:=by simpa[hcs]using Qq62 k hnc
    have hx1:=Rv hr h1e;obtain⟨ys,hys⟩:∃ys,ys=xs.drop (i*k):=⟨_,rfl⟩;have hyl:ys.length=(es.length - i)*k:=by rw[hys,List.length_drop,hxl,Nat.sub_mul]
    have hy1:∀y∈ys,y.oneCell'=true:=fun y hy=>hx1 y (Q1 (hys▸hy))
    have hcx:∀(j:Nat) (u:Value),xs[j]?=some u->w.cell? ⟨g,j,none⟩=some u:=fun j u hj=>by
     refine o0 hg ?_;rw[<-htk,Qq67]at hj;split at hj
     ·exact hj
     ·cases hj
    have hcy:∀(j:Nat) (u:Value),ys[j]?=some u->w.cell? ((⟨g,i*k,none⟩:Addr).add j)=some u:=fun j u hj=>by
     rw[add_mid];rw[hys,List.getElem?_drop]at hj;exact hcx _ u hj
    have hik:i*k+us.length=(i+vs.length)*k:=by rw[hul,Qq72]
    have htot:i*k+us.length+ys.length=(es.length+vs.length)*k:=by
     rw[hul,hyl,<-Qq72,<-Qq72];congr 1;omega
    have hres:bg w (Mv (.slice (some ⟨g,0,none⟩) es.length cap) X) dX (es.take i++vs++es.drop i).flatten (xs.take (i*k)++us++ys):=by
     rw[List.flatten_append,List.flatten_append,qN k i es hke,xU k i es hke,hys];exact((hr.take _).append hru).append (hr.drop _)
    have hlen:(es.take i++vs++es.drop i).length=es.length+vs.length:=by simp;omega
    have htl:(xs.take (i*k)++us++ys).length=(es.length+vs.length)*k:=by
     rw[QB,QB,List.length_take,hxl,Nat.min_eq_left (Qq62 k hi)];exact htot
    by_cases hroom:es.length+vs.length<=cap
    ·
     have hfit:(es.length+vs.length)*k<=cur.toList.length:=by simpa[hcs]using Qq62 k hroom
     have r1:=sq (P:=P) w.drew S S 0 E g ((i+vs.length)*k) (es.length+vs.length - (i+vs.length)) 0 ⟨g,i*k,none⟩ (es.length+vs.length - i) 0 cur E ys k (es.length - i) H.hS hsz hg
      (by simp only[Nat.min_def];split<;>omega) hyl hcy (by simp only[Array.length_toList]at hfit;omega) hy1
     obtain⟨cur1,hcur1⟩:∃cur1:Array Value,cur1=(qD cur.toList ((i+vs.length)*k) ys).toArray:=⟨_,rfl⟩;have hg1:(w.drew.setRow g cur1).heap[g]?=some (.cells cur1 E (0,0)):=setRow_heap w.drew g cur _ E _ hg
     have hl1:cur1.size=cap*k:=by
      rw[hcur1,List.size_toArray,EF (by rw[<-hik];omega),Array.length_toList,hcs]
     have r2:=sq (P:=P) (w.drew.setRow g cur1) S S 0 E g (i*k) (es.length+vs.length - i) 0 ad vs.length vc cur1 E us k vs.length H.hS hsz hg1
      (by simp only[Nat.min_def];split<;>omega) hul (fun j u hj=>by rw[World.cell?_of_block (w:=w) (vM w.drew g cur1 (by rw[Fv];exact hne))];exact hcell j u hj)
      (by rw[hl1,<-hcs,<-Array.length_toList];omega) hone
     obtain⟨cur2,hcur2⟩:∃cur2:Array Value,cur2=(qD cur1.toList (i*k) us).toArray:=⟨_,rfl⟩;have hg2:((w.drew.setRow g cur1).setRow g cur2).heap[g]?=some (.cells cur2 E (0,0)):=setRow_heap _ g cur1 _ E _ hg1
     have hc2:cur2.toList=xs.take (i*k)++us++ys++cur.toList.drop ((es.length+vs.length)*k):=by
      rw[hcur2,hcur1,<-hik,Uq (by omega),htot,<-htk,List.take_take,Nat.min_eq_left (Qq62 k hi)]
     have hC:cur.toList.length=cap*k:=(Array.length_toList (xs:=cur)).trans hcs;have hL1:cur1.toList.length=cap*k:=(Array.length_toList (xs:=cur1)).trans hl1;have hfr:Fr (some g) w ((w.drew.setRow g cur1).setRow g cur2):=(Fr.agV w _).trans' ((Oj _ g _).trans' (Oj _ g _))
     have hcap0:cur.size≠0:=by
      have:0<cap:=by omega
      rw[hcs];exact Nat.ne_of_gt (Nat.mul_pos this hk0)
     refine(H.shift g es.length cap i hin hcm' ad vs.length vc hm hroom w (w.drew.setRow g cur1) ((w.drew.setRow g cur1).setRow g cur2) (fun lb cb=> ?_) (fun ty dc sc=> ?_) (fun ty dc=> ?_)).mono ?_
     ·exact H.Dd _ w (JK w S B E H.hS k (fun w'=>by simp[Go.sizeOf,typeInfo,hi1,hi4]) ad ⟨g,(i+vs.length)*k,none⟩ vs.length vc lb cb hne had hg hcap0)
     ·rw[hcur1];exact r1
     ·rw[hcur2];exact r2
     ·rintro e w' ⟨rfl,rfl⟩;refine⟨_,rfl,⟨xs.take (i*k)++us++ys,⟨?_,.inr ⟨g,cap,cur2,by rw[hlen],hb0,hg2,by rw[hlen];exact hroom,hcm,?_,?_⟩⟩,hmem,hres.mono (@JH w _ (.slice (some ⟨g,0,none⟩) es.length cap) (.slice (some ⟨g,0,none⟩) (es.length+vs.length) cap) X hfr fun b hb=> .inl hb) (dX.le _)⟩,fun b hb=> .inl hb,hfr⟩
      ·rw[htl,hlen]
      ·rw[hcur2,List.size_toArray,EF (by rw[hL1];omega),hL1]
      ·rw[hlen,hc2,<-htl,List.take_left' rfl]
    ·
     have hik2:i+(es.length+vs.length - i)=es.length+vs.length:=by omega
     have hold:(Builtin.firstCells inf.size i (.slice (some ⟨g,0,none⟩) i cap)).run P w.drew= .ok (xs.take (i*k)).toArray w.drew:=by
      rw[hi4];refine run_firstCells_some w.drew k i ⟨g,0,none⟩ i cap (xs.take (i*k)) (by rw[List.length_take,hxl];exact Nat.min_eq_left (Qq62 k hi)) fun j u hj=> ?_
      rw[add_mid,Nat.zero_add];rw[Qq67]at hj;split at hj
      ·exact hcx j u hj
      ·cases hj
     have hmax':es.length+vs.length<=9223372036854775807:=by simp only[maxLen]at hmax;omega
     have r0:=fun ty=>Lib.run_append_grow_zeros (P:=P) w S I ty E inf z .i64 .i64 H.hS H.hI hi1 hi2 (some ⟨g,0,none⟩) i cap (xs.take (i*k)) hold (es.length+vs.length - i) (by omega) (by omega) (by omega) (by omega)
      (by rw[hi5];have:=Qq62 bytes (show es.length+vs.length - i<=es.length+vs.length by omega);omega) (by rw[hi5,hik2];exact growslice_fits (by omega) hby)
     rw[hik2]at r0;obtain⟨G,hG⟩:∃G,G=grownCap w (es.length+vs.length) cap E:=⟨_,rfl⟩;have hGn:es.length+vs.length<=G:=by rw[hG];exact grownCap_ge w _ _ _
     have hGm:G<=maxLen:=by rw[hG];exact grownCap_le_maxLen w _ _ _ hmax
     have hG63:G<=9223372036854775807:=by simp only[maxLen]at hGm;omega
     rw[<-hG]at r0;obtain⟨row,hrow⟩:∃row:Array Value,row=(xs.take (i*k)).toArray++Builtin.zeroCells z.cells (es.length+vs.length - i)++Builtin.zeroCells z.cells (G - (es.length+vs.length)):=⟨_,rfl⟩;rw[<-hrow]at r0;have hrt:(xs.take (i*k)).length=i*k:=by rw[List.length_take,hxl];exact Nat.min_eq_left (Qq62 k hi)
     have hrl:row.size=G*k:=by
      rw[hrow,Array.size_append,Array.size_append,List.size_toArray,hrt,size_zeroCells,size_zeroCells,hi3,<-Qq72,<-Qq72];congr 1;omega
     have hrtake:row.toList.take (i*k)=xs.take (i*k):=by
      rw[hrow,Array.toList_append,Array.toList_append,QL];exact List.take_left' hrt
     have hN:(w.drew.alloc (.cells row E)).heap[w.heap.size]?=some (.cells row E (0,0)):=by
      show(w.heap.push (.cells row E))[w.heap.size]?=_;simp
     have hkeep:∀b,b<w.heap.size->(w.drew.alloc (.cells row E)).heap[b]?=w.heap[b]?:=fun b hb=>Below.heap_alloc w.drew _ b hb
     have hfit:(es.length+vs.length)*k<=row.size:=by rw[hrl];exact Qq62 k hGn
     have r1:=sq (P:=P) (w.drew.alloc (.cells row E)) S S 0 E w.heap.size (i*k) (es.length+vs.length - i) 0 ad vs.length vc row E us k vs.length H.hS hsz hN
      (by simp only[Nat.min_def];split<;>omega) hul (fun j u hj=>by rw[World.cell?_of_block (w:=w) (hkeep _ (by rw[Fv];exact hadlt))];exact hcell j u hj) (by omega) hone
     have hR:row.toList.length=G*k:=(Array.length_toList (xs:=row)).trans hrl;obtain⟨cur1,hcur1⟩:∃cur1:Array Value,cur1=(qD row.toList (i*k) us).toArray:=⟨_,rfl⟩;have hl1:cur1.size=G*k:=by rw[hcur1,List.size_toArray,EF (by rw[hR];omega),hR]
     have hL1:cur1.toList.length=G*k:=(Array.length_toList (xs:=cur1)).trans hl1;have hg1:((w.drew.alloc (.cells row E)).setRow w.heap.size cur1).drew.heap[w.heap.size]?=some (.cells cur1 E (0,0)):=setRow_heap _ _ row _ E _ hN
     have r2:=sq (P:=P) ((w.drew.alloc (.cells row E)).setRow w.heap.size cur1).drew S S 0 E w.heap.size ((i+vs.length)*k) (es.length+vs.length - (i+vs.length)) 0 ⟨g,i*k,none⟩ (es.length - i) 0 cur1 E ys k (es.length - i) H.hS hsz hg1
      (by simp only[Nat.min_def];split<;>omega) hyl (fun j u hj=>by
       rw[World.cell?_of_block (w:=w) (w':=((w.drew.alloc (.cells row E)).setRow w.heap.size cur1).drew) (((vM _ w.heap.size cur1 (by rw[Fv];exact Nat.ne_of_lt hglt)).trans (hkeep _ (by rw[Fv];exact hglt))))]
       exact hcy j u hj) (by rw[hl1,<-hrl,<-hik];omega) hy1
     obtain⟨cur2,hcur2⟩:∃cur2:Array Value,cur2=(qD cur1.toList ((i+vs.length)*k) ys).toArray:=⟨_,rfl⟩;obtain⟨w3,hw3⟩:∃w3,w3=((w.drew.alloc (.cells row E)).setRow w.heap.size cur1).drew.setRow w.heap.size cur2:=⟨_,rfl⟩;have hg2:w3.heap[w.heap.size]?=some (.cells cur2 E (0,0)):=by rw[hw3];exact setRow_heap _ _ cur1 _ E _ hg1
     have hc2:cur2.toList=xs.take (i*k)++us++ys++row.toList.drop ((es.length+vs.length)*k):=by
      rw[hcur2,hcur1,<-hik,WC (by rw[hR];omega),htot,hrtake]
     have hfr:Fr (some g) w w3:=by
      rw[hw3];refine⟨rfl,rfl,rfl,by simp[World.setRow],fun b hb _=> ?_,DL.of (by show w.drawn<=w.drawn+1+1;omega)⟩
      rw[vM _ _ _ (Nat.ne_of_lt hb)];exact(vM _ w.heap.size cur1 (Nat.ne_of_lt hb)).trans (hkeep b hb)
     refine(H.grow g es.length cap i hin hnc hcm' ad vs.length vc hm (by omega) w.heap.size G hGn hG63 w (w.drew.alloc (.cells row E)) ((w.drew.alloc (.cells row E)).setRow w.heap.size cur1) w3 (fun ty=> ?_) (fun ty dc=> ?_) (fun ty dc sc=> ?_)).mono ?_
     ·have:=r0 ty;rw[show((es.length+vs.length - i:Nat):Int)=(es.length:Int)+(vs.length:Int) - (i:Int)by omega]at this
      exact this
     ·rw[hcur1];exact r1
     ·rw[hw3,hcur2];exact r2
     ·rintro e w' ⟨rfl,rfl⟩
      have hub:∀b,cW (.slice (some ⟨w.heap.size,0,none⟩) (es.length+vs.length) G)=some b->cW (.slice (some ⟨g,0,none⟩) es.length cap)=some b\/w.heap.size<=b:=fun b hb=>by
       injection hb with hb
       exact .inr (Nat.le_of_eq hb)
      refine⟨_,rfl,⟨xs.take (i*k)++us++ys,⟨?_,.inr ⟨w.heap.size,G,cur2,by rw[hlen],QS _,hg2,by rw[hlen];exact hGn,hGm,?_,?_⟩⟩,hmem,hres.mono (@JH w _ (.slice (some ⟨g,0,none⟩) es.length cap) (.slice (some ⟨w.heap.size,0,none⟩) (es.length+vs.length) G) X hfr hub) (dX.le _)⟩,hub,hfr⟩
      ·rw[htl,hlen]
      ·rw[hcur2,List.size_toArray,EF (by rw[hL1,<-hik];omega),hL1]
      ·rw[hlen,hc2,<-htl,List.take_left' rfl]
end
end Go.TQ
end
noncomputable section
namespace Go.Proofs.YtgjpkadjihpddaaGreat
open Go.RowKit Go.TQ Go.Lib
namespace S7
theorem zE:∀w:World,(Go.sizeOf 67).run Tryz.prog w= .ok 3 w:=fun _=>by kernel_rfl
set_option maxHeartbeats 4000000 in
set_option maxRecDepth 100000 in
theorem CD(g n c i:Nat)(hi:i<=n)(hc:n<=c)(hc63:c<=9223372036854775807)(u:Option Addr)(vc:Nat)(w:World):
  Calls Tryz.prog 213 #[.slice (some ⟨g,0,none⟩) n c,.int .i64 i,.slice u 0 vc] w fun e w'=>e= .returned (.slice (some ⟨g,0,none⟩) n c)/\w'=w:=by
 have zE:=zE;have uS:=run_underlying Tryz.underlying65
 go_enter Tryz.func213,Tryz.ntmps213
 go_wp2
 all_goals go_ret
 all_goals exact⟨rfl,rfl⟩
set_option maxHeartbeats 4000000 in
set_option maxRecDepth 100000 in
theorem ES(u:Option Addr)(vc:Nat)(w:World):
  Calls Tryz.prog 213 #[.slice none 0 0,.int .i64 0,.slice u 0 vc] w fun e w'=>e= .returned (.slice none 0 0)/\w'=w:=by
 have zE:=zE;have uS:=run_underlying Tryz.underlying65
 go_enter Tryz.func213,Tryz.ntmps213
 go_wp2
 all_goals go_ret
 all_goals exact⟨rfl,rfl⟩
set_option maxHeartbeats 4000000 in
set_option maxRecDepth 100000 in
theorem MX(g n c:Nat)(hc:n<=c)(hc63:c<=9223372036854775807)(ad:Addr)(m vc:Nat)(hm:0<m)(w w1:World)(v1:Value)
  (hr:∀ty,(Builtin.append_ #[65,65] ty #[.slice (some ⟨g,0,none⟩) n c,.slice (some ad) m vc]).run Tryz.prog w= .ok v1 w1):
  Calls Tryz.prog 213 #[.slice (some ⟨g,0,none⟩) n c,.int .i64 n,.slice (some ad) m vc] w fun e w'=>e= .returned v1/\w'=w1:=by
 have zE:=zE;have uS:=run_underlying Tryz.underlying65;have hz1:¬((m:Int)=0):=by omega
 go_enter Tryz.func213,Tryz.ntmps213
 go_wp2_with (at_builtin;refine Lib.wpList_append_run _ rfl _ _ _ _ rfl _ _ rfl rfl _ _ (hr _) ?_)
 all_goals go_ret
 all_goals exact⟨rfl,rfl⟩
set_option maxHeartbeats 4000000 in
set_option maxRecDepth 100000 in
theorem Bk(ad:Addr)(m vc:Nat)(hm:0<m)(w w1:World)(v1:Value)
  (hr:∀ty,(Builtin.append_ #[65,65] ty #[.slice none 0 0,.slice (some ad) m vc]).run Tryz.prog w= .ok v1 w1):
  Calls Tryz.prog 213 #[.slice none 0 0,.int .i64 0,.slice (some ad) m vc] w fun e w'=>e= .returned v1/\w'=w1:=by
 have zE:=zE;have uS:=run_underlying Tryz.underlying65;have hz1:¬((m:Int)=0):=by omega
 go_enter Tryz.func213,Tryz.ntmps213
 go_wp2_with (at_builtin;refine Lib.wpList_append_run _ rfl _ _ _ _ rfl _ _ rfl rfl _ _ (hr _) ?_)
 all_goals go_ret
 all_goals exact⟨rfl,rfl⟩
set_option maxHeartbeats 4000000 in
set_option maxRecDepth 100000 in
theorem shift(g n c i:Nat)(hi:i<n)(hc63:c<=9223372036854775807)(ad:Addr)(m vc:Nat)(hm:0<m)(hroom:n+m<=c)(w w1 w2:World)
  (hov:∀lb cb,(callFunc 255 #[.slice (some ad) m vc,.slice (some ⟨g,(i+m)*3,none⟩) lb cb]).run Tryz.prog w= .ok (.value (.bool false)) w)
  (h1:∀ty dc sc,(Builtin.copy_ #[65,65] ty #[.slice (some ⟨g,(i+m)*3,none⟩) (n+m - (i+m)) dc,.slice (some ⟨g,i*3,none⟩) (n+m - i) sc]).run Tryz.prog w.drew= .ok (goInt (n - i:Nat)) w1)
  (h2:∀ty dc,(Builtin.copy_ #[65,65] ty #[.slice (some ⟨g,i*3,none⟩) (n+m - i) dc,.slice (some ad) m vc]).run Tryz.prog w1= .ok (goInt m) w2):
  Calls Tryz.prog 213 #[.slice (some ⟨g,0,none⟩) n c,.int .i64 i,.slice (some ad) m vc] w fun e w'=>e= .returned (.slice (some ⟨g,0,none⟩) (n+m) c)/\w'=w2:=by
 have zE:=zE;have uS:=run_underlying Tryz.underlying65;have hz1:¬((m:Int)=0):=by omega
 have hz2:¬((i:Int)=(n:Int)):=by omega
 have mixed:Tryz.prog.follows .mixedOrders=true:=by kernel_rfl
 have hw1:IntKind.i64.wrap ((i:Int)+(m:Int))=(i:Int)+(m:Int):=by rw[IntKind.wrap_i64];omega
 have hb1:(0:Int)<=(i:Int)+(m:Int):=by omega
 have hin:i<=n:=by omega
 have htn:((i:Int)+(m:Int)).toNat=i+m:=by omega
 have hb2:¬(c=i+m):=by omega
 have hb3:(i:Int)<=(n:Int)+(m:Int):=by omega
 have hb4:¬(c=i):=by omega
 go_enter Tryz.func213,Tryz.ntmps213
 go_wp2_with (simp only[hov])
 go_region_law_o (refine step_copy_runI rfl _ _ 65 65 rfl _ _ (by simp[Act.eval,Act.put]) (by simp[Act.eval,Act.put]) (h1 _ _ _) ?_)
 go_wp2_with (at_builtin;refine wpList_copy_runI _ rfl _ _ 65 65 rfl _ _ rfl rfl (h2 _ _) ?_)
 go_ret
 exact⟨rfl,rfl⟩
set_option maxHeartbeats 4000000 in
set_option maxRecDepth 100000 in
theorem grow(g n c i:Nat)(hi:i<n)(hc:n<=c)(hc63:c<=9223372036854775807)(ad:Addr)(m vc:Nat)(hm:0<m)(hroom:c<n+m)(N G:Nat)(hGn:n+m<=G)(hG63:G<=9223372036854775807)(w w1 w2 w3:World)
  (hz:∀ty,(Builtin.append_ #[65,3] ty #[.slice (some ⟨g,0,none⟩) i c,.int .i64 ((n:Int)+(m:Int) - (i:Int))]).run Tryz.prog w= .ok (.slice (some ⟨N,0,none⟩) (n+m) G) w1)
  (h1:∀ty dc,(Builtin.copy_ #[65,65] ty #[.slice (some ⟨N,i*3,none⟩) (n+m - i) dc,.slice (some ad) m vc]).run Tryz.prog w1= .ok (goInt m) w2)
  (h2:∀ty dc sc,(Builtin.copy_ #[65,65] ty #[.slice (some ⟨N,(i+m)*3,none⟩) (n+m - (i+m)) dc,.slice (some ⟨g,i*3,none⟩) (n - i) sc]).run Tryz.prog w2.drew= .ok (goInt (n - i:Nat)) w3):
  Calls Tryz.prog 213 #[.slice (some ⟨g,0,none⟩) n c,.int .i64 i,.slice (some ad) m vc] w fun e w'=>e= .returned (.slice (some ⟨N,0,none⟩) (n+m) G)/\w'=w3:=by
 have zE:=zE;have uS:=run_underlying Tryz.underlying65;have hz1:¬((m:Int)=0):=by omega
 have hz2:¬((i:Int)=(n:Int)):=by omega
 have hz3:(c:Int)<(n:Int)+(m:Int):=by omega
 have mixed:Tryz.prog.follows .mixedOrders=true:=by kernel_rfl
 have hw1:IntKind.i64.wrap ((i:Int)+(m:Int))=(i:Int)+(m:Int):=by rw[IntKind.wrap_i64];omega
 have hb1:(0:Int)<=(i:Int)+(m:Int):=by omega
 have hin:i<=n:=by omega
 have htn:((i:Int)+(m:Int)).toNat=i+m:=by omega
 have hb3:(i:Int)<=(n:Int):=by omega
 have hGi:¬(G=i):=by omega
 have hGim:¬(G=i+m):=by omega
 have hci:¬(c=i):=by omega
 go_enter Tryz.func213,Tryz.ntmps213
 go_wp2_with (first
  |(at_builtin;refine Lib.wpList_append_run _ rfl _ _ _ _ rfl _ _ rfl rfl _ _ (hz _) ?_)
  |(at_builtin;refine wpList_copy_runI _ rfl _ _ 65 65 rfl _ _ rfl rfl (h1 _ _) ?_))
 go_region_law_o (refine step_copy_runI rfl _ _ 65 65 rfl (.slice (some ⟨N,(i+m)*3,none⟩) (n+m - (i+m)) (G - (i+m))) (.slice (some ⟨g,i*3,none⟩) (n - i) (c - i)) (by simp[Act.eval,Act.put]) (by simp[Act.eval,Act.put]) (h2 3 (G - (i+m)) (c - i)) ?_)
 go_wp2
 go_ret
 exact⟨rfl,rfl⟩
theorem ways:abz Tryz.prog 213 65 67 3 4 255 3 56 where
 aff:=by decide
 hS:=Tryz.underlying65
 hI:=Tryz.underlying3
 afj:=adC (by kernel_rfl)
 Dd:=fun x w h=>by
  rw[run_callFunc_extern Tryz.func255 (by kernel_rfl) (by kernel_rfl) (by kernel_rfl) (e:=Extern.SlicesOverlaps.overlaps #[65,65] #[4]) (by kernel_rfl),h]
  rfl
 CD:=CD
 ES:=ES
 MX:=MX
 Bk:=Bk
 shift:=shift
 grow:=grow
theorem enters:Go.TQ.Enters Tryz.prog 213:=⟨Tryz.f213,Tryz.func213,by kernel_rfl,by kernel_rfl⟩
end S7
end Go.Proofs.YtgjpkadjihpddaaGreat
end
noncomputable section
namespace Go.TQ
section
def S4{α:Type}(bytes:Nat)(s:List α)(i:Int)(v:List α):Option (List α):=bif decide (0<=i)&&decide (i<=((s.length:Nat):Int))&&aX bytes (s.length+v.length)then some (s.take i.toNat++v++s.drop i.toNat)else none
theorem eo{P:Program}{f S E I B ov k bytes:Nat}(H:abz P f S E I B ov k bytes)(hent:Enters P f){T:Ty}(hk:∀x:T.den,(T.pv x).length=k):
  eJ.Sound P (U:=U) (.cw f E k T [.ty (Ty.i .i64),.ty (Ty.sl T)] fun s a=>S4 bytes s a.1 a.2.1):=by
 refine⟨hent,fun xs a ys h=> ?_⟩
 suffices key:∀(i:Int) (v:List T.den) (ys:List T.den),S4 bytes xs i v=some ys->Uc P f E k (xs.map T.pv) [.int .i64 i,.sl (v.map T.pv)] (ys.map T.pv)from key a.1 a.2.1 ys h
 clear h;intro i v ys h;unfold S4 at h
 cases hc:(decide (0<=i)&&decide (i<=((xs.length:Nat):Int))&&aX bytes (xs.length+v.length))with
 |false=>rw[hc]at h;cases h
 |true=>
  rw[hc]at h;injection h with h
  subst h;simp only[Qm,Qi]at hc;obtain⟨⟨h0,h1⟩,h2⟩:=hc;obtain⟨h3,h4⟩:=Bd h2;have hone:∀x:T.den,(T.pv x).all PV.one=true:=fun x=>QH.2 fun y hy=>Ta (K.eH T x y hy)
  have:=adB H (es:=xs.map T.pv) (vs:=v.map T.pv) (i:=i.toNat) (by rw[QC];omega)
   (fun u hu=>by obtain⟨x,_,rfl⟩:=QP.1 hu;exact hone x) (fun u hu=>by obtain⟨x,_,rfl⟩:=QP.1 hu;exact⟨hk x,hone x⟩)
   (by rw[QC,QC];exact h4) (by rw[QC,QC];exact h3)
  rw[<-List.map_take,<-List.map_drop,<-List.map_append,<-List.map_append,show((i.toNat:Nat):Int)=i by omega]at this
  exact this
end
section
open Go.Proofs Go.Sort Go.RowKit Go.Lib
def xz:PV->Bool
 | .int _ _=>true
 | .str _=>true
 | .bool _=>true
 |_=>false
def oQ:PV->Value
 | .int k n=> .int k n
 | .str s=> .string s
 | .bool b=> .bool b
 |_=>undef
theorem GA{w:World}{M:Nat->Prop}{G:Gh}{x:PV}(h:xz x=true):bm w M G x (oQ x):=by
 cases x<;>first|exact .int _ _|exact .str _|exact .bool _|exact absurd h (by simp[xz])
theorem YA{w:World}{M:Nat->Prop}{G:Gh}{x:PV}{v:Value}(h:xz x=true)(hr:bm w M G x v):v=oQ x:=by
 cases x<;>first|(cases hr;rfl)|exact absurd h (by simp[xz])
theorem OA{x:PV}(h:xz x=true):(oQ x).oneCell'=true:=by
 cases x<;>first|rfl|exact absurd h (by simp[xz])
theorem Ln{w:World}{M:Nat->Prop}{G:Gh}:∀{xs:List PV} {vs:List Value},xs.all xz=true->bg w M G xs vs->vs=xs.map oQ
 |[],vs,_,hr=>hr.qG
 |x::xs,vs,h,hr=>by
  obtain⟨v,vs',rfl,r1,r2⟩:=hr.cons_inv;rw[Qq69,Qm]at h;rw[QD,<-YA h.1 r1,<-Ln h.2 r2]
theorem Lm{w:World}{M:Nat->Prop}{G:Gh}:∀{xs:List PV},xs.all xz=true->bg w M G xs (xs.map oQ)
 |[],_=> .nil
 |x::xs,h=>by
  rw[Qq69,Qm]at h;exact .cons (GA h.1) (Lm h.2)
theorem adS{w w':World}(h:Fr none w w'):∃q os,w'=grow (w.drewN q) os:=by
 refine⟨w'.drawn - w.drawn,w'.heap.extract w.heap.size w'.heap.size,?_⟩;have hs:=h.size
 have hh:w'.heap=w.heap++w'.heap.extract w.heap.size w'.heap.size:=by
  apply Array.ext_getElem?;intro k;rw[Array.getElem?_append];split
  ·rename_i hk;exact h.block k hk (by simp)
  ·rename_i hk;rw[Array.getElem?_extract];split
   ·rw[show w.heap.size+(k - w.heap.size)=k by omega]
   ·exact Array.getElem?_eq_none (by omega)
 have h1:=h.os;have h2:=h.tape;have h3:=h.output;have h4:=h.drawn rfl
 cases w' with|mk hp tp dr os out=>
 cases w with|mk hp' tp' dr' os' out'=>
 simp only at h1 h2 h3 h4 hh;subst h1 h2 h3;unfold grow World.drewN;simp only;rw[<-hh,show dr'+(dr - dr')=dr by omega]
theorem RQ{w:World}{b n:Nat}{F:Array Value}{os:Array Obj}{cur:Array Value}{e:TypeId}{fr:Nat×Nat}(hb:w.heap[b]?=some (.cells cur e fr)):
  (grow (putRow id (Sort.ahead w n) b 0 F) os).heap[b]?=some (.cells (putCells id 0 F cur) e fr):=by
 have hlt:b<w.heap.size:=(Q8.1 hb).1;unfold grow putRow mapBlock Sort.ahead;simp only;rw[Array.getElem?_append_left (by simp;exact hlt),Array.getElem?_modify,Qr rfl,hb]
 rfl
theorem Yw{w:World}{b n:Nat}{F:Array Value}{os:Array Obj}:Fr (some b) w (grow (putRow id (Sort.ahead w n) b 0 F) os):=by
 refine⟨rfl,rfl,rfl,?_,fun q hq hne=> ?_,DL.of (Nat.le_add_right _ _)⟩
 ·unfold grow putRow mapBlock Sort.ahead;simp only[Array.size_append,Array.size_modify];omega
 ·have hqb:¬b=q:=fun e=>hne (by rw[e])
  unfold grow putRow mapBlock Sort.ahead;simp only;rw[Array.getElem?_append_left (by simp;exact hq),Array.getElem?_modify,Qs hqb]
theorem Ox{F cur:Array Value}(h:F.size<=cur.size):(putCells id 0 F cur).toList=F.toList++cur.toList.drop F.size:=by
 apply List.ext_getElem?;intro i;rw[Array.getElem?_toList];unfold putCells;rw[Array.getElem?_mapIdx,List.getElem?_append];simp only[Array.length_toList,QS,true_and,Nat.zero_add,Nat.sub_zero,id]
 by_cases hi:i<F.size
 ·rw[Qr hi,Array.getElem?_toList,Array.getElem?_eq_getElem (show i<cur.size by omega),Array.getElem?_eq_getElem hi,Qe,Qr hi,getElem!_pos F i hi]
 ·rw[Qs hi,List.getElem?_drop,Array.getElem?_toList,show F.size+(i - F.size)=i by omega]
  cases cur[i]? with
  |none=>rfl
  |some y=>rw[Qe,Qs hi]
def ZX(P:Program)(f k:Nat):Prop:=∀(α:Type) [Inhabited α] (eI:α->List Value) (_:∀x,(eI x).length=k) (_:∀x,∀v∈eI x,v.oneCell'=true) (cf:α->α->Int) (_:Go.Sort.SWO (ltOf cf)) (g:Nat) (cb:Array Value) (cW off cap:Nat) (d:Array α) (w:World)
  (_:∀args w,(callFunc g args).run P w= .ok (.enter g args) w) (_:CmpLays P g cb eI k cf cW off d.size w) (_:HoldsK eI k w cW off d) (_:cW<w.heap.size) (_:d.size<4611686018427387904) (_:∀x y,(ltOf cf) x y=false->(ltOf cf) y x=false->x=y),
  Calls P f #[.slice (some ⟨cW,off,none⟩) d.size cap,.func (.func g) #[] cb] w fun e w'=>
   e= .returned (.tuple #[])/\∃n os,w'=sortWorldK eI k w cW off n (d.toList.mergeSort fun x y=> !(ltOf cf) y x).toArray os
def T7(P:Program)(f:Nat):Prop:=∀(α:Type) [Inhabited α] (eI:α->Value) (_:OneCell eI) (cf:α->α->Int) (_:Go.Sort.SWO (ltOf cf)) (g:Nat) (cb:Array Value) (cW off cap:Nat) (d:Array α) (w:World)
  (_:∀args w,(callFunc g args).run P w= .ok (.enter g args) w) (_:CmpLays1 P g cb eI cf cW off d.size w) (_:Holds eI w cW off d) (_:cW<w.heap.size) (_:d.size<4611686018427387904) (_:∀x y,(ltOf cf) x y=false->(ltOf cf) y x=false->x=y),
  Calls P f #[.slice (some ⟨cW,off,none⟩) d.size cap,.func (.func g) #[] cb] w fun e w'=>
   e= .returned (.tuple #[])/\∃n os,w'=sortWorld eI w cW off n (d.toList.mergeSort fun x y=> !(ltOf cf) y x).toArray os
def T8(P:Program)(f:Nat):Prop:=∀(p:Option Addr) (cap:Nat) (fv:Value) (w:World),Calls P f #[.slice p 0 cap,fv] w fun e w'=>e= .returned (.tuple #[])/\w'=w
section
variable {P : Program} {α : Type} [Inhabited α] {pv : α -> List PV} {k : Nat}
def oD(pv:α->List PV)(x:α):List Value:=(pv x).map oQ
def T6(P:Program)(f g e k:Nat)(pv:α->List PV)(le:α->α->Bool):Prop:=
 ∀(w:World) (b cap:Nat) (xs:List α) (cur:Array Value),w.heap[b]?=some (.cells cur e (0,0))->xs.length<4611686018427387904->xs.length<=cap->cap<=maxLen->cur.size=cap*k->cur.toList.take (xs.length*k)=xs.flatMap (oD pv)->
  Calls P f #[.slice (some ⟨b,0,none⟩) xs.length cap,.func (.func g) #[] #[]] w fun en w'=>en= .returned (.tuple #[])/\
   ∃cur':Array Value,w'.heap[b]?=some (.cells cur' e (0,0))/\cur'.size=cur.size/\cur'.toList.take (xs.length*k)=(xs.mergeSort le).flatMap (oD pv)/\Fr (some b) w w'
theorem OQ(hk:∀x,(pv x).length=k):∀xs:List α,(xs.flatMap (oD pv)).length=xs.length*k
 |[]=>by simp
 |x::xs=>by rw[List.flatMap_cons,QB,OQ hk xs,oD,QC,hk,QE,Qq72,Nat.one_mul,Nat.add_comm]
theorem UZ{f g e:Nat}{le:α->α->Bool}(h0:T8 P f)(hs:T6 P f g e k pv le)(hk0:0<k)(hk:∀x,(pv x).length=k)(hp:∀x,(pv x).all xz=true)(xs:List α)(hsx:xs.length<4611686018427387904):
  XY P f e k (xs.map pv) [.bY g []] (.dg []) ((xs.mergeSort le).map pv):=by
 intro w X hX v vs hvX ⟨us,hown,hke,hr⟩ hargs;obtain⟨a1,args,rfl,ha1,hargs⟩:=hargs.cons_inv;obtain rfl:=hargs.qG;obtain⟨cs,rfl,hcs⟩:=ha1.zg;obtain rfl:=hcs.qG
 have hflat:∀l:List α,(l.map pv).flatten.map oQ=l.flatMap (oD pv):=fun l=>by
  induction l with
  |nil=>rfl
  |cons x l ih=>rw[QD,List.flatten_cons,List.map_append,ih,List.flatMap_cons];rfl
 have hplain:∀l:List α,(l.map pv).flatten.all xz=true:=fun l=>by
  induction l with
  |nil=>rfl
  |cons x l ih=>rw[QD,List.flatten_cons,List.all_append,ih,hp x];rfl
 have hus:us=xs.flatMap (oD pv):=by rw[Ln (hplain xs) hr,hflat]
 have hms:(xs.mergeSort le).length=xs.length:=List.length_mergeSort xs
 have hkm:∀l:List α,∀u∈l.map pv,u.length=k:=fun l u hu=>by
  obtain⟨x,_,rfl⟩:=QP.1 hu;exact hk x
 have hlen:(xs.map pv).length=xs.length:=QC ..;have hlen2:((xs.mergeSort le).map pv).length=xs.length:=by rw[QC,hms]
 rw[hlen]at hown
 have hrep:∀w':World,bg w' (Mv v X) dX ((xs.mergeSort le).map pv).flatten ((xs.mergeSort le).flatMap (oD pv)):=fun w'=>by
  rw[<-hflat];exact Lm (hplain _)
 by_cases hx:xs=[]
 ·
  subst hx
  have hv:∃p cap,v= .slice p 0 cap:=by
   rcases hown.2 with⟨h1,_⟩|⟨b,cap,cur,h1,_⟩
   ·exact⟨none,0,h1⟩
   ·exact⟨_,cap,h1⟩
  obtain⟨p,cap,hv⟩:=hv;have:=h0 p cap (.func (.func g) #[] [].toArray) w;rw[<-hv]at this;refine this.mono fun en w' ⟨h1,h2⟩=> ?_
  subst h2;refine⟨_,h1,.dg _ [] rfl (fun i x v h=>by simp at h),⟨us,?_,hkm _,?_⟩,Fr.refl _ _⟩
  ·rw[hlen2];exact hown
  ·rw[hus];have:=hrep w';rw[show([]:List α).mergeSort le=[]from by simp]at this ⊢
   exact this
 ·rcases hown.2 with⟨_,h2⟩|⟨b,cap,cur,rfl,hbase,hb,hn,hcap,hsz,htake⟩
  ·exact absurd (Qq66 h2) hx
  ·refine(hs w b cap xs cur hb hsx hn hcap hsz (by rw[htake,hus])).mono fun en w' ⟨h1,cur',h2,h3,h4,h5⟩=> ?_
   refine⟨_,h1,.dg _ [] rfl (fun i x v h=>by simp at h),⟨(xs.mergeSort le).flatMap (oD pv),⟨?_,.inr ⟨b,cap,cur',by rw[hlen2],hbase,h2,by rw[hlen2];exact hn,hcap,by rw[h3];exact hsz,?_⟩⟩,hkm _,hrep w'⟩,h5⟩
   ·rw[OQ hk,hms,hlen2]
   ·rw[hlen2];exact h4
theorem Jw{eI:α->List Value}(hk:∀x,(eI x).length=k)(hk0:0<k):∀(l:List α) (t:Nat),t<l.length*k->(l.flatMap eI)[t]?=(eI l[t / k]!)[t % k]?
 |[],t,h=>by simp at h
 |x::l,t,h=>by
  rw[List.flatMap_cons]
  by_cases ht:t<k
  ·rw[List.getElem?_append_left (by rw[hk];exact ht),Nat.div_eq_of_lt ht,Nat.mod_eq_of_lt ht]
   rfl
  ·rw[List.getElem?_append_right (by rw[hk];omega),hk]
   have hl:t - k<l.length*k:=by rw[QE,Qq72,Nat.one_mul]at h;omega
   rw[Jw hk hk0 l (t - k) hl,Nat.mod_eq_sub_mod (by omega:t>=k),show t / k=(t - k) / k+1 from Nat.div_eq_sub_div hk0 (by omega)]
   simp
theorem Xf{eI:α->List Value}(hk:∀x,(eI x).length=k)(hk0:0<k)(l:List α):(flatK eI k l.toArray).toList=l.flatMap eI:=by
 have hlen:(l.flatMap eI).length=l.length*k:=by
  induction l with
  |nil=>simp
  |cons x l ih=>rw[List.flatMap_cons,QB,ih,hk,QE,Qq72,Nat.one_mul,Nat.add_comm]
 apply List.ext_getElem?;intro t
 by_cases ht:t<l.length*k
 ·rw[Jw hk hk0 l t ht];have hm:t % k<(eI l[t / k]!).length:=by rw[hk];exact Nat.mod_lt _ hk0
  rw[Qv hm];unfold flatK;simp only[Array.toList_map,Array.toList_range,QT,List.size_toArray];rw[List.getElem?_range ht];simp only[Qe];congr 1;rw[show(l.toArray)[t / k]! =l[t / k]! by simp]
  exact getElem!_pos (eI l[t / k]!) (t % k) hm
 ·rw[Qq71 (by rw[Array.length_toList,size_flatK,List.size_toArray];omega),Qq71 (by omega)]
def abG(P:Program)(g:Nat)(val:α->Value)(cf:α->α->Int):Prop:=∀(x y:α) (w:World),Calls P g #[val x,val y] w fun e w'=>e= .returned (.int .i64 (cf x y))/\∃q os,w'=grow (w.drewN q) os
theorem My{w:World}{b e cap:Nat}{xs:List α}{cur:Array Value}{F:Array Value}(hb:w.heap[b]?=some (.cells cur e (0,0)))(hF:F.toList=cur.toList.take F.size):Holds id w b 0 F:=by
 intro j hj
 have hc:cur[j]?=some F[j]:=by
  have h1:F.toList[j]?=some F[j]:=by rw[Array.getElem?_toList];exact Array.getElem?_eq_getElem hj
  rw[hF,Qq67,Qr hj,Array.getElem?_toList]at h1;exact h1
 rw[getElem!_pos F j hj];refine⟨?_,?_⟩
 ·unfold World.cell?;simp only[Nat.zero_add,hb];simpa using hc
 ·unfold World.frozen?;simp only[hb];simp
theorem ahN{f g e:Nat}{cf:α->α->Int}(hS:ZX P f k)(hk0:0<k)(hk:∀x,(pv x).length=k)(hp:∀x,(pv x).all xz=true)(hO:Go.Sort.SWO (ltOf cf))(hT:∀x y,(ltOf cf) x y=false->(ltOf cf) y x=false->x=y)
  (eg:∀args w,(callFunc g args).run P w= .ok (.enter g args) w) (hc:abG P g (fun x=> .agg (oD pv x).toArray) cf):T6 P f g e k pv fun x y=> !(ltOf cf) y x:=by
 intro w b cap xs cur hb hsx hn hcap hsz htake;have hlt:b<w.heap.size:=(Q8.1 hb).1;have hkE:∀x,(oD pv x).length=k:=fun x=>by rw[oD,QC,hk]
 have hflat:∀l:List α,(flatK (oD pv) k l.toArray).toList=l.flatMap (oD pv):=Xf hkE hk0;have hcs:CmpLays P g #[] (oD pv) k cf b 0 xs.toArray.size w:=fun m os dk _ x y=>hc x y _
 have hH:HoldsK (oD pv) k w b 0 xs.toArray:=My (xs:=xs) (cap:=cap) hb (by rw[hflat,size_flatK,List.size_toArray];exact htake.symm)
 have:=hS α (oD pv) hkE (fun x v hv=>by obtain⟨y,hy,rfl⟩:=QP.1 hv;exact OA (QH.1 (hp x) y hy)) cf hO g #[] b 0 cap xs.toArray w eg hcs hH hlt (by rw[List.size_toArray];exact hsx) hT
 refine this.mono fun en w' ⟨h1,n,os,h2⟩=>⟨h1,?_⟩
 have hms:(xs.mergeSort fun x y=> !(ltOf cf) y x).length=xs.length:=List.length_mergeSort xs
 have hFs:(flatK (oD pv) k (xs.mergeSort fun x y=> !(ltOf cf) y x).toArray).size=xs.length*k:=by rw[size_flatK,List.size_toArray,hms]
 have hFc:(flatK (oD pv) k (xs.mergeSort fun x y=> !(ltOf cf) y x).toArray).size<=cur.size:=by rw[hFs,hsz];exact Qq62 k hn
 subst h2;refine⟨_,RQ hb,by unfold putCells;rw[Array.size_mapIdx],?_,Yw⟩
 rw[Ox hFc,<-hFs,<-Array.length_toList,List.take_left,hflat]
theorem ahO{f g e:Nat}{cf:α->α->Int}{p1:α->PV}(hS:T7 P f)(hp:∀x,xz (p1 x)=true)(hO:Go.Sort.SWO (ltOf cf))(hT:∀x y,(ltOf cf) x y=false->(ltOf cf) y x=false->x=y)
  (eg:∀args w,(callFunc g args).run P w= .ok (.enter g args) w) (hc:abG P g (fun x=>oQ (p1 x)) cf):T6 P f g e 1 (fun x=>[p1 x]) fun x y=> !(ltOf cf) y x:=by
 intro w b cap xs cur hb hsx hn hcap hsz htake;have hlt:b<w.heap.size:=(Q8.1 hb).1
 have hflat:∀l:List α,(l.toArray.map fun x=>oQ (p1 x)).toList=l.flatMap (oD fun x=>[p1 x]):=fun l=>by
  induction l with
  |nil=>simp
  |cons x l ih=>
   rw[List.flatMap_cons,<-ih];simp[oD]
 have hcs:CmpLays1 P g #[] (fun x=>oQ (p1 x)) cf b 0 xs.toArray.size w:=fun m os dk _ x y=>hc x y _
 have hF:=My (xs:=xs) (cap:=cap) (F:=xs.toArray.map fun x=>oQ (p1 x)) hb (by rw[hflat,Array.size_map,List.size_toArray,<-Nat.mul_one xs.length];exact htake.symm)
 have hH:Holds (fun x=>oQ (p1 x)) w b 0 xs.toArray:=by
  intro j hj;have h1:=hF j (by rw[Array.size_map];exact hj)
  rw[getElem!_pos _ j (by rw[Array.size_map];exact hj),Array.getElem_map]at h1
  rw[getElem!_pos _ j hj];exact h1
 have:=hS α (fun x=>oQ (p1 x)) (fun x=>OA (hp x)) cf hO g #[] b 0 cap xs.toArray w eg hcs hH hlt (by rw[List.size_toArray];exact hsx) hT
 refine this.mono fun en w' ⟨h1,n,os,h2⟩=>⟨h1,?_⟩
 have hms:(xs.mergeSort fun x y=> !(ltOf cf) y x).length=xs.length:=List.length_mergeSort xs
 have hput:∀(W:World) (d:Array α),putRow (fun x=>oQ (p1 x)) W b 0 d=putRow id W b 0 (d.map fun x=>oQ (p1 x)):=fun W d=>by
  unfold putRow;congr 1
  funext c
  unfold putCells;apply Array.ext_getElem?;intro i;simp only[Array.getElem?_mapIdx,Array.size_map,QS,true_and,Nat.zero_add,Nat.sub_zero,id]
  cases c[i]? with
  |none=>rfl
  |some y=>
   simp only[Qe]
   by_cases hi:i<d.size
   ·rw[Qr hi,Qr hi,getElem!_pos d i hi,getElem!_pos _ i (by rw[Array.size_map];exact hi),Array.getElem_map]
   ·rw[Qs hi,Qs hi]
 unfold sortWorld at h2;rw[hput]at h2;have hFs:((xs.mergeSort fun x y=> !(ltOf cf) y x).toArray.map fun x=>oQ (p1 x)).size=xs.length*1:=by rw[Array.size_map,List.size_toArray,hms,Nat.mul_one]
 have hFc:((xs.mergeSort fun x y=> !(ltOf cf) y x).toArray.map fun x=>oQ (p1 x)).size<=cur.size:=by rw[hFs,hsz];exact Qq62 1 hn
 subst h2;refine⟨_,RQ hb,by unfold putCells;rw[Array.size_mapIdx],?_,Yw⟩
 rw[Ox hFc,<-hFs,<-Array.length_toList,List.take_left,hflat]
end
theorem VM{P:Program}{g:Nat}{α:Type}{va:α->PV}{val:α->Value}{cf:α->α->Int}(hval:∀(x:α) (w:World) (M:Nat->Prop),bm w M dX (va x) (val x))(h:∀x y,M4 P g false [] [va x,va y] (.int .i64 (cf x y)) [])(hg:Xc=[]:=by rfl):abG P g val cf:=by
 intro x y w;have hG:GI w:=fun q hq=>by rw[hg]at hq;cases hq
 have:=h x y w (fun _=>False) (.nil hG) 0 0 [] [val x,val y] (fun e=>by cases e) (.cons (hval x w _) (.cons (hval y w _) .nil))
 refine this.mono fun en w' ⟨v,rvs,h1,h2,_,h4⟩=> ?_
 rw[h2.eV]at h1;exact⟨h1,adS h4⟩
end
section
open Go.Proofs Go.Sort
def Fl{α:Type}(c:α->α->Option Int)(x y:α):Int:=(c x y).getD 0
structure acn {α:Type} (c:α->α->Option Int):Prop where
 some:∀x y,c x y=some (Fl c x y)
 ord:Go.Sort.SWO (ltOf (Fl c))
 tot:∀x y,ltOf (Fl c) x y=false->ltOf (Fl c) y x=false->x=y
open Classical in
 def Ga{α:Type}(c:α->α->Option Int)(s:List α):Option (Unit×List α):=if acn c/\s.length<4611686018427387904 then some ((),s.mergeSort fun x y=> !(ltOf (Fl c)) y x)else none
section
variable {P : Program} {f g e k : Nat} {T : Ty} {F : T.den × T.den × Unit -> Option Int} (hent : Enters P f) (h0 : T8 P f) (hgs : eJ.Sound P (U := U) (.fn g [.ty T, .ty T] (.one (Ty.i .i64)) F)) (hi : Inhabited T.den) (hp : ∀ x : T.den, (T.pv x).all xz = true)
 include hent h0 hgs hi hp
theorem srtSK(hS:ZX P f k)(hk0:0<k)(hk:∀x:T.den,(T.pv x).length=k)(hv:∀x:T.den,fF (U:=U) T x= .agg (T.pv x)):
  eJ.Sound P (U:=U) (.rw f e k T [.bY g []] (.many []) fun s a=>Ga (fun x y=>F (x,y,())) s):=by
 refine⟨hent,fun xs a r ys h=> ?_⟩
 have h:Ga (fun x y=>F (x,y,())) xs=some (r,ys):=h
 unfold Ga at h;split at h
 ·rename_i hc;injection h with h
  injection h with _ h2
  subst h2;refine UZ h0 (ahN hS hk0 hk hp hc.1.ord hc.1.tot (fun args w=>nH hgs.1 args) ?_) hk0 hk hp xs hc.2
  refine VM (va:=fun x=> .agg (T.pv x)) (fun x w M=> .agg _ _ (by rw[oD,QC]) fun i y v h1 h2=> ?_) fun x y=> ?_
  ·rw[oD,QT,h1]at h2;injection h2 with h2
   rw[<-h2];exact GA (QH.1 (hp x) y (Q7 h1))
  ·have:=hgs.2 (x,y,()) _ (hc.1.some x y);rw[show fZ (U:=U) [.ty T,.ty T] (x,y,())=[.agg (T.pv x),.agg (T.pv y)]by rw[<-hv x,<-hv y];rfl]at this
   exact this
 ·cases h
theorem srtS1(hS:T7 P f)(hv:∀x:T.den,T.pv x=[fF (U:=U) T x]):
  eJ.Sound P (U:=U) (.rw f e 1 T [.bY g []] (.many []) fun s a=>Ga (fun x y=>F (x,y,())) s):=by
 refine⟨hent,fun xs a r ys h=> ?_⟩
 have h:Ga (fun x y=>F (x,y,())) xs=some (r,ys):=h
 unfold Ga at h;split at h
 ·rename_i hc;injection h with h
  injection h with _ h2
  subst h2;have hp1:∀x:T.den,xz (fF (U:=U) T x)=true:=fun x=>by have:=hp x;rw[hv x]at this;simpa using this
  have hpv:(fun x:T.den=>T.pv x)=fun x=>[fF (U:=U) T x]:=funext hv
  have:=UZ (pv:=fun x:T.den=>[fF (U:=U) T x]) (e:=e) h0 (ahO hS hp1 hc.1.ord hc.1.tot (fun args w=>nH hgs.1 args) (VM (va:=fun x=>fF (U:=U) T x) (fun x w M=>GA (hp1 x)) fun x y=>hgs.2 (x,y,()) _ (hc.1.some x y))) (by omega) (fun x=>rfl) (fun x=>by simpa using hp1 x) xs hc.2
  rw[<-hpv]at this;exact this
 ·cases h
end
end
end Go.TQ
end
noncomputable section
namespace Go.Proofs
open Go.Shelf
def Tryzsrt217_ren:Go.Shelf.Ren:=⟨fun|6=>217|15=>263|14=>262|28=>310|29=>311|20=>302|21=>303|22=>304|23=>305|24=>306|25=>307|26=>308|27=>309|46=>340|47=>341|48=>342|49=>343|50=>344|57=>362|n=>n,fun|22=>22|24=>3|25=>49|3=>3|39=>45|0=>0|53=>281|55=>283|4=>4|46=>275|45=>274|50=>114|5=>5|9=>9|66=>312|70=>316|76=>328|77=>189|n=>n,fun|n=>n⟩
theorem Tryzsrt217:Go.Proofs.SlLaysF.n6 Tryz.prog Tryzsrt217_ren:={
 mixed:=by kernel_rfl
 f6:=⟨Tryz.f217.name,by decide,Tryz.func217.trans (congrArg some (by kernel_rfl))⟩
 f14:=⟨Tryz.f262.name,by decide,Tryz.func262.trans (congrArg some (by kernel_rfl))⟩
 f15:=Tryz.func263.trans (congrArg some (by kernel_rfl))
 f20:=⟨Tryz.f302.name,by decide,Tryz.func302.trans (congrArg some (by kernel_rfl))⟩
 f21:=⟨Tryz.f303.name,by decide,Tryz.func303.trans (congrArg some (by kernel_rfl))⟩
 f22:=⟨Tryz.f304.name,by decide,Tryz.func304.trans (congrArg some (by kernel_rfl))⟩
 f23:=⟨Tryz.f305.name,by decide,Tryz.func305.trans (congrArg some (by kernel_rfl))⟩
 f24:=⟨Tryz.f306.name,by decide,Tryz.func306.trans (congrArg some (by kernel_rfl))⟩
 f25:=⟨Tryz.f307.name,by decide,Tryz.func307.trans (congrArg some (by kernel_rfl))⟩
 f26:=⟨Tryz.f308.name,by decide,Tryz.func308.trans (congrArg some (by kernel_rfl))⟩
 f27:=⟨Tryz.f309.name,by decide,Tryz.func309.trans (congrArg some (by kernel_rfl))⟩
 f28:=Tryz.func310.trans (congrArg some (by kernel_rfl))
 f29:=Tryz.func311.trans (congrArg some (by kernel_rfl))
 f46:=⟨Tryz.f340.name,by decide,Tryz.func340.trans (congrArg some (by kernel_rfl))⟩
 f47:=Tryz.func341.trans (congrArg some (by kernel_rfl))
 f48:=Tryz.func342.trans (congrArg some (by kernel_rfl))
 f49:=⟨Tryz.f343.name,by decide,Tryz.func343.trans (congrArg some (by kernel_rfl))⟩
 f50:=⟨Tryz.f344.name,by decide,Tryz.func344.trans (congrArg some (by kernel_rfl))⟩
 f57:=⟨Tryz.f362.name,by decide,Tryz.func362.trans (congrArg some (by kernel_rfl))⟩
 t0:=Tryz.underlying0
 a0:=Tryz.isAgg0
 z0:=Tryz.sizeOf0
 v0:=Tryz.zeroValue0
 t3:=Tryz.underlying3
 a3:=Tryz.isAgg3
 z3:=Tryz.sizeOf3
 v3:=Tryz.zeroValue3
 t4:=Tryz.underlying4
 a4:=Tryz.isAgg4
 z4:=Tryz.sizeOf4
 v4:=Tryz.zeroValue4
 t5:=Tryz.underlying5
 a5:=Tryz.isAgg5
 z5:=Tryz.sizeOf5
 v5:=Tryz.zeroValue5
 t9:=Tryz.underlying9
 a9:=Tryz.isAgg9
 z9:=Tryz.sizeOf9
 v9:=Tryz.zeroValue9
 t22:=Tryz.underlying22
 a22:=Tryz.isAgg22
 z22:=Tryz.sizeOf22
 v22:=Tryz.zeroValue22
 a24:=Tryz.isAgg3
 z24:=Tryz.sizeOf3
 t25:=Tryz.underlying49
 a25:=Tryz.isAgg49
 z25:=Tryz.sizeOf49
 v25:=Tryz.zeroValue49
 t39:=Tryz.underlying45
 a39:=Tryz.isAgg45
 z39:=Tryz.sizeOf45
 v39:=Tryz.zeroValue45
 t45:=Tryz.underlying274
 a45:=Tryz.isAgg274
 z45:=Tryz.sizeOf274
 v45:=Tryz.zeroValue274
 t46:=Tryz.underlying275
 a46:=Tryz.isAgg275
 z46:=Tryz.sizeOf275
 v46:=Tryz.zeroValue275
 t50:=Tryz.underlying114
 a50:=Tryz.isAgg114
 z50:=Tryz.sizeOf114
 v50:=Tryz.zeroValue114
 t53:=Tryz.underlying281
 a53:=Tryz.isAgg281
 z53:=Tryz.sizeOf281
 v53:=Tryz.zeroValue281
 t55:=Tryz.underlying283
 a55:=Tryz.isAgg283
 z55:=Tryz.sizeOf283
 v55:=Tryz.zeroValue283
 t66:=Tryz.underlying312
 a66:=Tryz.isAgg312
 z66:=Tryz.sizeOf312
 v66:=Tryz.zeroValue312
 t70:=Tryz.underlying316
 a70:=Tryz.isAgg316
 z70:=Tryz.sizeOf316
 v70:=Tryz.zeroValue316
 t76:=Tryz.underlying328
 a76:=Tryz.isAgg328
 z76:=Tryz.sizeOf328
 v76:=Tryz.zeroValue328
 t77:=Tryz.underlying189
 a77:=Tryz.isAgg189
 z77:=Tryz.sizeOf189
 v77:=Tryz.zeroValue189}
end Go.Proofs
namespace Go.Proofs.YtgjpkadjihpddaaGreat
open Go.TQ Go.Proofs
namespace srt217
theorem enters:Go.TQ.Enters Tryz.prog 217:=⟨_,Tryz.func217,by kernel_rfl,by kernel_rfl⟩
theorem none:T8 Tryz.prog 217:=fun p cap fv w=>AnyF.slices_SortFunc_none (P:=Tryz.prog) (ρ:=Tryzsrt217_ren) {Tryzsrt217 with} p cap fv w
theorem sorts:T7 Tryz.prog 217:=fun α _ eI h1 cf hO g cb cW off cap d w eg hc hH hb hsz hT=>Any.slices_SortFunc_total Tryzsrt217 eI h1 cf hO g cb cW off cap d w eg hc hH hb hsz hT
end srt217
end Go.Proofs.YtgjpkadjihpddaaGreat
end
