import Derived.Test.YtppbofaglpdghaaGreatScenarioAgreeMr
import Derived.Test.YtppbofaglpdghaaGreatScenarioAgreeMs
import Derived.Test.YtppbofaglpdghaaGreatScenarioAgreeMt
import Derived.Test.YtppbofaglpdghaaGreatScenarioAgreeMu
import Derived.Test.YtppbofaglpdghaaGreatScenarioAgreeMv
import Derived.Test.YtppbofaglpdghaaGreatScenarioAgreeMw
import Derived.Test.YtppbofaglpdghaaGreatRows
import Derived.WalkKit
import Derived.ProofKit
import Derived.OpenShut
import Derived.ShutString
import Derived.ChangeOld
import Derived.Below
open Int (toNat)
open Sum (inl inr)
open List (replicate)
namespace Go.Proofs.YtppbofaglpdghaaGreat.scenarioAgree
open Go.ChangeShapes Go.WideShapes Go.ChangeAt Go.RowKit
open Go.ChangeMaps (open_string shut_string)
set_option linter.unusedVariables false
def IsRow(k:IntKind)(w:World)(a:Option Addr)(len cap:Nat)(zs:List Int):Prop:=
 (a=none/\len=0/\cap=0/\zs=[])\/
 ∃x,a=some x/\len<=cap/\cap<=maxLen/\zs.length=cap/\(∀i,i<zs.length->w.cell? (x.add i)=some (.int k (zs.getD i 0)))/\∀n∈zs,(Lit.int k n).wf=true
theorem walk(a0:Option Addr)(len0 cap0:Nat)(z0:List Int)(w:World)(w0:IsRow .i64 w a0 len0 cap0 z0):
  Calls Tryz.prog 4 #[.slice a0 len0 cap0] w fun e w'=>e= .returned (.bool true)/\Below w.heap.size w w':=by
 have hl0:(z0.take len0).length<=9223372036854775807:=by
  rcases w0 with⟨_,_,_,rfl⟩|⟨_,_,h1,h2,h3,_⟩
  ·simp
  ·simp only[maxLen]at h2;simp only[List.length_take];omega
 exact Go.TQ.NS (vs:=[.slice a0 len0 cap0]) (fun q hq=>by cases hq) (zX.s.2 (z0.take len0,()) true ((Tm _))) (.cons (Go.TQ.Ow (fun _ h=>h) w0) .nil)
set_option maxRecDepth 100000 in
theorem lifted(os:Os)(started:os.Started)(H:Type)(dD:TypeId×Value->H):
  ReturnsInHanded {} Tryz.checked os 4 .any (Rows.scenarioAgreeSpec.pre6 dD Tryz.prog Tryz.f4 Rows.scenarioAgreeRow.domain false) (Rows.scenarioAgreeSpec.post dD Tryz.prog Tryz.f4 false true false false):=by
 refine returnsInHanded_of_change (C:=Tryz.checked) own started d_ Tryz.func4
  (ChangeSpec.witness6 (enc:=dD) (C:=Tryz.checked) false ⟨#[],#[.slice none 0 0],[]⟩ 8 d_ d_ d_ d_) ?_
 intro W base args ds gs before hval0 hW hcnd _;have hval:∀(j:Nat) t v,Tryz.f4.params[j]?=some t->args[j]?=some v->Value.okWide Tryz.prog W .any base t v:=hval0;have hW':=hW;obtain⟨p,q,hA0,hV,rfl,hfz,hnd⟩:=hW;have hA:DataW.TrodAll dD Tryz.prog W 0 (fun _=>true) true Tryz.f4.params.toList args.toList ds p:=hA0
 rw[Tryz.params4]at hA hval;obtain⟨v0,vs0,d0,ds0,p0,q0,hargs,rfl,rfl,h0,r0⟩:=trodAll_cons hA;obtain⟨rfl,rfl,rfl⟩:=trodAll_nil r0;obtain rfl:args=#[v0]:=by cases args;simp_all
 obtain⟨rfl,rfl⟩:=trodVars_none hV;obtain⟨a0,len0,cap0,rfl⟩:=okWide_slice Tryz.underlying22 (hval 0 22 v0 rfl rfl);have k0:=h0;have lt0:∀x∈p0,x.block<W.heap.size:=by obtain⟨m,hm⟩:=k0;exact DataW.trod_lt m _ _ _ hm
 obtain⟨z0,w0⟩:∃zs,IsRow .i64 W a0 len0 cap0 zs:=by
  obtain⟨fuel,hf⟩:=h0;rcases open_ints Tryz.underlying22 Tryz.underlying3 d_ hf with⟨hcs,_⟩|⟨x,l,c,zs,hcs,_,hl,hm,hz,_,hcell,hwz⟩
  ·simp[Value.cells]at hcs;obtain⟨rfl,rfl,rfl⟩:=hcs;exact⟨[],.inl ⟨rfl,rfl,rfl,rfl⟩⟩
  ·simp[Value.cells]at hcs;obtain⟨rfl,rfl,rfl⟩:=hcs;exact⟨zs,.inr ⟨_,rfl,hl,hm,by simpa using hz,hcell,hwz⟩⟩
 clear hA0 hval0;refine(walk a0 len0 cap0 z0 W w0).mono fun e W' ⟨he,bel⟩=> ?_
 subst he;exact⟨_,rfl,_,_,_,[],_,[],hW',trodAll_mk1 (shut_bool Tryz.underlying4 _),(trodAll_cons_mk (Below.trod laidOut d_ (qaV d_) k0 bel lt0) trodAll_mk0),rfl,bel.frame _,fun h=>by cases h⟩
theorem closed:joinedFacts Tryz.pinned.checked.prog 4 Tryz.f4 Rows.scenarioAgreeSpec Rows.scenarioAgreeRow=true:=by simp only[joinedFacts,Qa];exact⟨⟨⟨⟨⟨⟨⟨⟨⟨⟨⟨⟨⟨⟨⟨⟨⟨⟨⟨⟨⟨⟨⟨⟨⟨⟨⟨⟨⟨⟨⟨d_,laidOut⟩,d_⟩,d_⟩,d_⟩,d_⟩,d_⟩,d_⟩,d_⟩,cl1⟩,cl2⟩,cl3⟩,cl4⟩,d_⟩,d_⟩,d_⟩,d_⟩,d_⟩,d_⟩,d_⟩,d_⟩,d_⟩,d_⟩,d_⟩,d_⟩,d_⟩,d_⟩,d_⟩,d_⟩,d_⟩,d_⟩,d_⟩
theorem OG:Rows.scenarioAgreeRow.holds Tryz.pinned (OpenSpec.ofChange Rows.scenarioAgreeSpec):=
 OpenClaim.holds_of_wide 4 Tryz.f4 rfl rfl rfl rfl rfl rfl rfl ⟨rfl,rfl,rfl,rfl,rfl⟩ rfl rfl rfl rfl rfl d_ Tryz.func4 closed
  (qaV d_) (by unfold Func.isWrapper;first|(rw[Qc (by decide+kernel)];kernel_rfl)|(rw[Qg (by decide+kernel)];exact⟨rfl,rfl⟩))
  (fun os started H dD _=>lifted os started H dD)
theorem proved:Rows.ScenarioAgreeSaid:=OG
#print axioms proved
end Go.Proofs.YtppbofaglpdghaaGreat.scenarioAgree
namespace Go.Proofs.YtppbofaglpdghaaGreat
theorem scenarioAgree_holds:Rows.ScenarioAgreeSaid:=scenarioAgree.proved
end Go.Proofs.YtppbofaglpdghaaGreat
