import Derived.Test.YtnhgcpiljggmmaaGreatDoorLaboratorySameMf
import Derived.Test.YtnhgcpiljggmmaaGreatDoorRows
import Derived.Test.YtnhgcpiljggmmaaGreatDoorTie
import Derived.WalkKit
import Derived.ProofKit
import Derived.OpenShut
import Derived.ShutString
import Derived.ChangeOld
import Derived.Below
namespace Go.Proofs.YtnhgcpiljggmmaaGreatDoor.laboratorySame
open Go.ChangeShapes Go.WideShapes Go.ChangeAt Go.RowKit
open Go.ChangeMaps (open_string shut_string)
set_option linter.unusedVariables false
theorem own:ownKnob Tryz.prog.godebug=none:=by kernel_rfl
theorem laidOut:laidOutB Tryz.prog=true:=by kernel_rfl
def IsRow(k:IntKind)(w:World)(a:Option Addr)(len cap:Nat)(zs:List Int):Prop:=
 (a=none/\len=0/\cap=0/\zs=[])\/
 ∃x,a=some x/\len<=cap/\cap<=maxLen/\zs.length=cap/\(∀i,i<zs.length->w.cell? (x.add i)=some (.int k (zs.getD i 0)))/\∀n∈zs,(Lit.int k n).wf=true
theorem walk(a0:Option Addr)(len0 cap0:Nat)(z0:List Int)(w:World)(w0:IsRow .i64 w a0 len0 cap0 z0)(hG:Go.TQ.GI w):
  Calls Tryz.prog 5 #[.slice a0 len0 cap0] w fun e w'=>e= .returned (.bool true)/\Below w.heap.size w w':=by
 have hl0:(z0.take len0).length<=9223372036854775807:=by
  rcases w0 with⟨_,_,_,rfl⟩|⟨_,_,h1,h2,h3,_⟩
  ·simp
  ·simp only[maxLen]at h2;simp only[List.length_take];omega
 exact Go.TQ.VM (vs:=[.slice a0 len0 cap0]) hG (Av.s.2 (z0.take len0,()) true ((abk _))) (.cons (Go.TQ.WY (fun _ h=>h) w0) .nil)
set_option maxRecDepth 100000 in
theorem lifted(os:Os)(started:os.Started)(H:Type)(fD:TypeId×Value->H):
  ReturnsInHanded {} Tryz.checked os 5 .any (fun w args=>(Rows.laboratorySameSpec.pre fD Tryz.prog Tryz.f5 Rows.laboratorySameRow.domain false w args/\laidMet Tryz.prog Gi.LL w)/\sizedMet fD Tryz.prog Tryz.f5 (OpenSpec.ofChange Rows.laboratorySameSpec) false w args) (Rows.laboratorySameSpec.post fD Tryz.prog Tryz.f5 false true false false):=by
 refine Gi.wrap (C:=Tryz.checked) (X:=fun w _=>laidMet Tryz.prog Gi.LL w) (fun _ _ _ hh h=>h.of_heap hh) own started (by kernel_rfl) Tryz.func5
  (ChangeSpec.witness_at (enc:=fD) (C:=Tryz.checked) (os:=os) (X:=fun w _=>laidMet Tryz.prog Gi.LL w) false (Gi.KZ os) #[.slice none 0 0] 8 rfl (by kernel_rfl) (by kernel_rfl) (by kernel_rfl) (by kernel_rfl) (by kernel_rfl) (Gi.LM os _)) ?_
 intro W base args ds gs before hval0 hW hL hsh;have hval:∀(j:Nat) t v,Tryz.f5.params[j]?=some t->args[j]?=some v->Value.okWide Tryz.prog W .any base t v:=hval0;have hW':=hW;obtain⟨p,q,hA0,hV,rfl,hfz,hnd⟩:=hW;have hA:DataW.TrodAll fD Tryz.prog W 0 (fun _=>true) true Tryz.f5.params.toList args.toList ds p:=hA0
 rw[Tryz.params5]at hA hval;obtain⟨v0,vs0,d0,ds0,p0,q0,hargs,rfl,rfl,h0,r0⟩:=trodAll_cons hA;obtain⟨rfl,rfl,rfl⟩:=trodAll_nil r0;obtain rfl:args=#[v0]:=by cases args;simp_all
 obtain⟨rfl,rfl⟩:=trodVars_none hV;obtain⟨a0,len0,cap0,rfl⟩:=okWide_slice Tryz.underlying22 (hval 0 22 v0 rfl rfl);have k0:=h0;have lt0:∀x∈p0,x.block<W.heap.size:=by obtain⟨m,hm⟩:=k0;exact DataW.trod_lt m _ _ _ hm
 obtain⟨z0,w0⟩:∃zs,IsRow .i64 W a0 len0 cap0 zs:=by
  obtain⟨fuel,hf⟩:=h0;rcases open_ints Tryz.underlying22 Tryz.underlying3 (by kernel_rfl) hf with⟨hcs,_⟩|⟨x,l,c,zs,hcs,_,hl,hm,hz,_,hcell,hwz⟩
  ·simp[Value.cells]at hcs;obtain⟨rfl,rfl,rfl⟩:=hcs;exact⟨[],.inl ⟨rfl,rfl,rfl,rfl⟩⟩
  ·simp[Value.cells]at hcs;obtain⟨rfl,rfl,rfl⟩:=hcs;exact⟨zs,.inr ⟨_,rfl,hl,hm,by simpa using hz,hcell,hwz⟩⟩
 clear hA0 hval0;refine(walk a0 len0 cap0 z0 W w0 (Gi.adC hL hsh)).mono fun e W' ⟨he,bel⟩=> ?_
 subst he;exact⟨_,rfl,_,_,_,[],_,[],hW',trodAll_mk1 (shut_bool Tryz.underlying4 _),(trodAll_cons_mk (Below.trod laidOut (by kernel_rfl) (of_decide_eq_true (by kernel_rfl)) k0 bel lt0) trodAll_mk0),rfl,bel.frame _,fun h=>by cases h⟩
theorem cl1:(Rows.laboratorySameRow.inPlace==Tryz.pinned.checked.prog.inPlace 5)=true:=by kernel_rfl
theorem cl2:(Rows.laboratorySameRow.unfollowed==Tryz.pinned.checked.prog.unfollowed 5)=true:=by kernel_rfl
theorem cl3:(Rows.laboratorySameRow.recurses==Tryz.pinned.checked.prog.recurses 5)=true:=by kernel_rfl
theorem cl4:(Rows.laboratorySameRow.named==Tryz.pinned.checked.prog.varsNamed 5)=true:=by kernel_rfl
theorem closed:joinedFacts Tryz.pinned.checked.prog 5 Tryz.f5 Rows.laboratorySameSpec Rows.laboratorySameRow=true:=by
 simp only[joinedFacts,Qm];exact⟨⟨⟨⟨⟨⟨⟨⟨⟨⟨⟨⟨⟨⟨⟨⟨⟨⟨⟨⟨⟨⟨⟨⟨⟨⟨⟨⟨⟨⟨⟨(by kernel_rfl),laidOut⟩,(by kernel_rfl)⟩,(by kernel_rfl)⟩,(by kernel_rfl)⟩,(by kernel_rfl)⟩,(by kernel_rfl)⟩,(by kernel_rfl)⟩,(by kernel_rfl)⟩,cl1⟩,cl2⟩,cl3⟩,cl4⟩,(by kernel_rfl)⟩,(by kernel_rfl)⟩,(by kernel_rfl)⟩,(by kernel_rfl)⟩,(by kernel_rfl)⟩,(by kernel_rfl)⟩,(by kernel_rfl)⟩,(by kernel_rfl)⟩,(by kernel_rfl)⟩,(by kernel_rfl)⟩,(by kernel_rfl)⟩,(by kernel_rfl)⟩,(by kernel_rfl)⟩,(by kernel_rfl)⟩,(by kernel_rfl)⟩,(by kernel_rfl)⟩,(by kernel_rfl)⟩,(by kernel_rfl)⟩,(by kernel_rfl)⟩
theorem over:Rows.laboratorySameRow.holds Tryz.pinned (OpenSpec.ofChange Rows.laboratorySameSpec):=
 OpenClaim.holds_of_wide 5 Tryz.f5 rfl rfl rfl rfl rfl rfl rfl ⟨rfl,rfl,rfl,rfl,rfl⟩ rfl rfl rfl rfl rfl (by kernel_rfl) Tryz.func5 closed
  (of_decide_eq_true (by kernel_rfl)) (by unfold Func.isWrapper;first|(rw[Qr (by decide+kernel)];kernel_rfl)|(rw[Qs (by decide+kernel)];exact⟨rfl,rfl⟩))
  (fun os started H fD _=>lifted os started H fD)
theorem proved:Rows.LaboratorySameSaid:=over
#print axioms proved
end Go.Proofs.YtnhgcpiljggmmaaGreatDoor.laboratorySame
namespace Go.Proofs.YtnhgcpiljggmmaaGreatDoor
open Go
theorem laboratorySame_holds:Rows.LaboratorySameCardSaid:=
 Claim7.holds_tied_plain_at .later [] [.data,.data,.data,.data,.sentinel,.sentinel,.pinned] true (true, "7fd5da32a52b346840e3c742641d430df9d661615cf737d7b6788f8b268ff6bd") true
  laboratorySame.proved (fun _ h=>by cases h) (by kernel_rfl) (fun _ h=>by cases h) laboratorySame_row_tie rfl ⟨rfl,rfl⟩ (by kernel_rfl) rfl
  (fun f fn hf hfn=>by
   obtain rfl:f=5:=Option.some.inj ((show Tryz.prog.funcNamed Rows.laboratorySameRow.func=some 5 by kernel_rfl).symm.trans hf) |>.symm
   obtain rfl:fn=Tryz.f5:=(Option.some.inj (Tryz.func5.symm.trans hfn)).symm
   exact⟨by kernel_rfl,fun j t ht=>by
    have hm:t∈Tryz.f5.params:=Array.mem_of_getElem? ht;rw[Tryz.params5]at hm;simp only[List.mem_toArray,QA,QR,or_false]at hm;rcases hm with rfl
    ·exact(show Tryz.prog.wantsStandIn 22=false by kernel_rfl)⟩)
  (by kernel_rfl)
#print axioms laboratorySame_holds
end Go.Proofs.YtnhgcpiljggmmaaGreatDoor
