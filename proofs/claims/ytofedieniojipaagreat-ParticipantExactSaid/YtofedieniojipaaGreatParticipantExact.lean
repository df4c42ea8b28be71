import Derived.Test.YtofedieniojipaaGreatParticipantExactMg
import Derived.Test.YtofedieniojipaaGreatRows
import Derived.WalkKit
import Derived.ProofKit
import Derived.OpenShut
import Derived.ShutString
import Derived.ChangeOld
import Derived.Below
open Int (toNat)
open Sum (inl inr)
open List (replicate)
namespace Go.Proofs.YtofedieniojipaaGreat.participantExact
open Go.ChangeShapes Go.WideShapes Go.ChangeAt Go.RowKit Go.TQ
open Go.ChangeMaps (open_string shut_string)
set_option linter.unusedVariables false
set_option maxRecDepth 100000
theorem own:ownKnob Tryz.prog.godebug=none:=d_
theorem laidOut:laidOutB Tryz.prog=true:=d_
theorem jY:okR Tryz.prog [3,9,27]=true:=d_
theorem walk(v0:Value)(x0:List (Ty.den (Ty.i .i64)))(a1:Int)(v2:Value)(x2:Ty.den (Ty.st .aa))(v3:Value)(x3:Ty.den (Ty.st .sI))(a4:Int)(a5:Int)(a6:ByteArray)(a7:Bool)(w:World)(w0:bp w (fun _=>False) dz (fo (U:=U) (Ty.sl (Ty.i .i64)) x0) v0)(w1:(Lit.int .i64 a1).wf=true)(w2:bp w (fun _=>False) dz (fo (U:=U) (Ty.st .aa) x2) v2)(w3:bp w (fun _=>False) dz (fo (U:=U) (Ty.st .sI) x3) v3)(w4:(Lit.int .i64 a4).wf=true)(w5:(Lit.int .i64 a5).wf=true)(s3_1:(Lit.int .i64 x3.aJ).wf=true):
  Calls Tryz.prog 7 #[v0,.int .i64 a1,v2,v3,.int .i64 a4,.int .i64 a5,.string a6,.bool a7] w fun e w'=>e= .returned (.bool true)/\Below w.heap.size w w':=
 aeU (vs:=[v0,.int .i64 a1,v2,v3,.int .i64 a4,.int .i64 a5,.string a6,.bool a7]) (fun q hq=>by cases hq) (Gq.s.2 (x0,a1,x2,x3,a4,a5,a6,a7,()) true ((akL _ _ _ _ _ _ _ (wf_i64 w4).1 (wf_i64 w4).2 (wf_i64 s3_1).1 (wf_i64 s3_1).2 (Yg w3 (j:=7) rfl) (Yg w3 (j:=8) rfl)))) (.cons w0 (.cons (.int _ _) (.cons w2 (.cons w3 (.cons (.int _ _) (.cons (.int _ _) (.cons (.str _) (.cons (.bool _) .nil))))))))
theorem lifted(os:Os)(started:os.Started)(H:Type)(gu:TypeId×Value->H):
  ReturnsInHanded {} Tryz.checked os 7 .any (Rows.participantExactSpec.pre6 gu Tryz.prog Tryz.f7 Rows.participantExactRow.domain false) (Rows.participantExactSpec.post gu Tryz.prog Tryz.f7 false true false false):=by
 refine returnsInHanded_of_change (C:=Tryz.checked) own started d_ Tryz.func7
  (ChangeSpec.witness6 (enc:=gu) (C:=Tryz.checked) false ⟨#[],#[.slice none 0 0,.int .i64 0,.agg #[.int .i64 0,.slice none 0 0,.slice none 0 0],.agg #[.int .i64 0,.int .i64 0,.int .i64 0,.int .i64 0,.int .i64 0,.slice none 0 0,.slice none 0 0,.slice none 0 0,.slice none 0 0,.int .i64 0,.int .i64 0,.int .i64 0,.int .i64 0,.slice none 0 0,.slice none 0 0,.int .i64 0,.int .i64 0,.string ⟨#[]⟩,.int .i64 0,.string ⟨#[]⟩,.int .i64 0,.string ⟨#[]⟩,.int .i64 0,.int .i64 0],.int .i64 0,.int .i64 0,.string ⟨#[]⟩,.bool false],[]⟩ 16 d_ d_ d_ d_) ?_
 intro W base args ds gs before hval0 hW hcnd _;have hval:∀(j:Nat) t v,Tryz.f7.params[j]?=some t->args[j]?=some v->Value.okWide Tryz.prog W .any base t v:=hval0;have hW':=hW;obtain⟨p,q,hA0,hV,rfl,hfz,hnd⟩:=hW;have hA:DataW.TrodAll gu Tryz.prog W 0 (fun _=>true) true Tryz.f7.params.toList args.toList ds p:=hA0
 rw[Tryz.params7]at hA hval;obtain⟨v0,vs0,d0,ds0,p0,q0,hargs,rfl,rfl,h0,r0⟩:=trodAll_cons hA;obtain⟨v1,vs1,d1,ds1,p1,q1,rfl,rfl,rfl,h1,r1⟩:=trodAll_cons r0;obtain⟨v2,vs2,d2,ds2,p2,q2,rfl,rfl,rfl,h2,r2⟩:=trodAll_cons r1;obtain⟨v3,vs3,d3,ds3,p3,q3,rfl,rfl,rfl,h3,r3⟩:=trodAll_cons r2;obtain⟨v4,vs4,d4,ds4,p4,q4,rfl,rfl,rfl,h4,r4⟩:=trodAll_cons r3;obtain⟨v5,vs5,d5,ds5,p5,q5,rfl,rfl,rfl,h5,r5⟩:=trodAll_cons r4;obtain⟨v6,vs6,d6,ds6,p6,q6,rfl,rfl,rfl,h6,r6⟩:=trodAll_cons r5;obtain⟨v7,vs7,d7,ds7,p7,q7,rfl,rfl,rfl,h7,r7⟩:=trodAll_cons r6;obtain⟨rfl,rfl,rfl⟩:=trodAll_nil r7;obtain rfl:args=#[v0,v1,v2,v3,v4,v5,v6,v7]:=by cases args;simp_all
 obtain⟨rfl,rfl⟩:=trodVars_none hV;have k0:=h0;have lt0:∀x∈p0,x.block<W.heap.size:=by obtain⟨m,hm⟩:=k0;exact qb6 m _ _ _ hm
 obtain⟨x0,w0⟩:=akB jY (fun _ h=>h) (T:=(Ty.i .i64)) Tryz.underlying22 d_ (hval 0 22 v0 rfl rfl) h0
 obtain⟨a1,rfl,rfl,rfl,w1⟩:=open_int Tryz.underlying3 (hval 1 3 v1 rfl rfl) h1;have k2:=h2;have lt2:∀x∈p2,x.block<W.heap.size:=by obtain⟨m,hm⟩:=k2;exact qb6 m _ _ _ hm
 obtain⟨x2,w2⟩:=aeb jY (fun _ h=>h) (n:= .aa) Tryz.underlying27 d_ (hval 2 27 v2 rfl rfl) h2
 have k3:=h3;have lt3:∀x∈p3,x.block<W.heap.size:=by obtain⟨m,hm⟩:=k3;exact qb6 m _ _ _ hm
 obtain⟨x3,w3⟩:=aeb jY (fun _ h=>h) (n:= .sI) Tryz.underlying40 d_ (hval 3 40 v3 rfl rfl) h3
 obtain⟨a4,rfl,rfl,rfl,w4⟩:=open_int Tryz.underlying3 (hval 4 3 v4 rfl rfl) h4;obtain⟨a5,rfl,rfl,rfl,w5⟩:=open_int Tryz.underlying3 (hval 5 3 v5 rfl rfl) h5;obtain⟨a6,rfl,rfl,rfl,w6⟩:=open_string Tryz.underlying9 (hval 6 9 v6 rfl rfl) h6;obtain⟨a7,rfl,rfl,rfl⟩:=open_bool Tryz.underlying4 (hval 7 4 v7 rfl rfl) h7;have s3_1:(Lit.int .i64 x3.aJ).wf=true:=aik Tryz.underlying40 (hval 3 40 v3 rfl rfl) (j:=1) (u:=3) d_ Tryz.underlying3 w3 rfl;clear hA0 hval0;refine(walk v0 x0 a1 v2 x2 v3 x3 a4 a5 a6 a7 W w0 w1 w2 w3 w4 w5 s3_1).mono fun e W' ⟨he,bel⟩=> ?_
 subst he;exact⟨_,rfl,_,_,_,[],_,[],hW',trodAll_mk1 (shut_bool Tryz.underlying4 _),(trodAll_cons_mk (Below.trod laidOut d_ (qal d_) k0 bel lt0) (trodAll_cons_mk (shut_int Tryz.underlying3 w1) (trodAll_cons_mk (Below.trod laidOut d_ (qal d_) k2 bel lt2) (trodAll_cons_mk (Below.trod laidOut d_ (qal d_) k3 bel lt3) (trodAll_cons_mk (shut_int Tryz.underlying3 w4) (trodAll_cons_mk (shut_int Tryz.underlying3 w5) (trodAll_cons_mk (shut_string Tryz.underlying9 w6) (trodAll_cons_mk (shut_bool Tryz.underlying4 _) trodAll_mk0)))))))),rfl,bel.frame _,fun h=>by cases h⟩
theorem cl1:(Rows.participantExactRow.inPlace==Tryz.pinned.checked.prog.inPlace 7)=true:=d_
theorem cl2:(Rows.participantExactRow.unfollowed==Tryz.pinned.checked.prog.unfollowed 7)=true:=d_
theorem cl3:(Rows.participantExactRow.recurses==Tryz.pinned.checked.prog.recurses 7)=true:=d_
theorem cl4:(Rows.participantExactRow.named==Tryz.pinned.checked.prog.varsNamed 7)=true:=d_
theorem closed:joinedFacts Tryz.pinned.checked.prog 7 Tryz.f7 Rows.participantExactSpec Rows.participantExactRow=true:=by simp only[joinedFacts,Qi];exact⟨⟨⟨⟨⟨⟨⟨⟨⟨⟨⟨⟨⟨⟨⟨⟨⟨⟨⟨⟨⟨⟨⟨⟨⟨⟨⟨⟨⟨⟨⟨d_,laidOut⟩,d_⟩,d_⟩,d_⟩,d_⟩,d_⟩,d_⟩,d_⟩,cl1⟩,cl2⟩,cl3⟩,cl4⟩,d_⟩,d_⟩,d_⟩,d_⟩,d_⟩,d_⟩,d_⟩,d_⟩,d_⟩,d_⟩,d_⟩,d_⟩,d_⟩,d_⟩,d_⟩,d_⟩,d_⟩,d_⟩,d_⟩
theorem JQ:Rows.participantExactRow.holds Tryz.pinned (OpenSpec.ofChange Rows.participantExactSpec):=
 OpenClaim.holds_of_wide 7 Tryz.f7 rfl rfl rfl rfl rfl rfl rfl ⟨rfl,rfl,rfl,rfl,rfl⟩ rfl rfl rfl rfl rfl d_ Tryz.func7 closed
  (qal d_) (by unfold Func.isWrapper;first|(rw[Qe (by decide+kernel)];kernel_rfl)|(rw[Qg (by decide+kernel)];exact⟨rfl,rfl⟩))
  (fun os started H gu _=>lifted os started H gu)
theorem proved:Rows.ParticipantExactSaid:=JQ
#print axioms proved
end Go.Proofs.YtofedieniojipaaGreat.participantExact
namespace Go.Proofs.YtofedieniojipaaGreat
theorem participantExact_holds:Rows.ParticipantExactSaid:=participantExact.proved
end Go.Proofs.YtofedieniojipaaGreat
