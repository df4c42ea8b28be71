/-
  Texts made small by a program (see NOTES). Conditions: those that each theorem names.
-/
import Derived.Maps.AppendAt
import Derived.Below
import Derived.Orders
import Derived.Tactics
import Derived.Deep.MidRow
import Derived.RangeFuncLeaves
import Derived.Laws.Build
import Derived.WalkKit
import Derived.Lib.Bytes
import Derived.Laws.IdiomStrings
import Derived.Laws.Strings3
import Derived.Laws.Slices
import Derived.Laws.Tables
import Derived.Laws.MakeOwn
import Derived.Laws.Cover3
import Derived.Laws.StructEq
import Derived.Sort.LoopGhostIn
import Derived.OrdersIn
set_option linter.unusedVariables false
set_option linter.defProp false
set_option linter.unusedSimpArgs false
set_option linter.unusedSectionVars false
set_option maxHeartbeats 2000000
namespace Go
section
abbrev Y:=Option
abbrev Z:=List
abbrev C:=ByteArray
abbrev Va:=Value
abbrev Wo:=World
abbrev Pr:=Program
abbrev FI:=FuncId
abbrev TI:=TypeId
abbrev Od:=Operand
end
section
def O {p : Prop} (h : p := by omega) : p := h
def o_ {p : Prop} (h : p := by simp; omega) : p := h
def t_ {p : Prop} (h : p := by simp) : p := h
def s_ {p : Prop} (h : p := by decide) : p := h
def d_ {p : Prop} (h : p := by kernel_rfl) : p := h
end
section
def Qa:=@Bool.and_eq_true
def Qb:=@Option.some.injEq
def Qc:=@if_pos
def Qd:=@Option.bind_eq_some_iff
def Qe:=@List.all_eq_true
def Qf:=@Nat.eq_of_beq_eq_true
def Qg:=@if_neg
def Qh:=@Option.map_eq_some_iff
def Qi:=@Option.bind_eq_bind
def Qj:=@List.map_cons
def Qk:=@Nat.le_of_ble_eq_true
def Ql:=@Nat.le_refl
def Qm:=@List.mem_cons
def Qn:=@Option.map_some
def Qo:=@run_underlying
def Qp:=@if_true
def Qq:=@List.mem_map
def Qr:=@List.getElem?_map
def Qs:=@Sem.run_bind
def Qt:=@List.getElem?_eq_getElem
def Qu:=@List.mem_append
def Qv:=@List.length_map
def Qw:=@Bool.or_eq_true
def Qx:=@List.mem_cons_self
def Qy:=@Array.getD_eq_getD_getElem?
def Qz:=@List.mem_cons_of_mem
def QA:=@List.all_cons
def QB:=@decide_eq_true_eq
def QC:=@List.map_nil
def QD:=@List.mem_of_getElem?
def QE:=@if_false
def QF:=@Nat.lt_of_lt_of_le
def QG:=@Array.getElem?_eq_some_iff
def QH:=@List.mapM_cons
def QI:=@List.getElem?_eq_some_iff
def QJ:=@Nat.add_mul
def QK:=@Result.andThen_ok
def QL:=@congrArg
def QM:=@Option.bind_some
def QN:=@cond_false
def QO:=@Option.pure_def
def QP:=@Sem.run_pure
def QQ:=@Bool.not_eq_true'
def QR:=@Bool.false_eq_true
def QS:=@Nat.le_trans
def QT:=@Nat.mul_le_mul_right
def QU:=@List.map_congr_left
def QV:=@Bool.and_true
def QW:=@List.length_cons
def QX:=@Prod.mk.injEq
def QY:=@List.length_append
def QZ:=@Array.toArray_toList
def Q0:=@Array.length_toList
def Q2:=@not_or
def Q3:=@Bool.or_eq_false_iff
def Q4:=@congrFun
def Q5:=@Option.map_none
def Q6:=@wpIn_mono
def Q7:=@Nat.zero_le
def Q8:=@and_true
def Q9:=@Nat.lt_succ_self
def qaa:=@Array.getElem?_eq_getElem
def qab:=@List.pairwise_cons
def qac:=@and_false
def qad:=@decide_eq_true
def qae:=@decide_eq_false
def qaf:=@List.append_assoc
def qag:=@List.mem_singleton
def qah:=@List.eq_nil_of_length_eq_zero
def qai:=@Nat.zero_add
def qaj:=@Nat.ne_of_lt
def qak:=@Nat.ble_eq_true_of_le
def qal:=@List.mem_flatMap
def qam:=@List.getElem_mem
def qan:=@Nat.le_succ
def qao:=@Nat.lt_or_ge
def qap:=@Nat.le_of_eq
def qaq:=@Nat.add_comm
def qar:=@and_self
def qas:=@cond_true
def qat:=@List.getElem?_take
def qau:=@List.pairwise_append
def qav:=@Nat.min_eq_left
def qaw:=@setRow_heap
def qax:=@Nat.one_mul
def qay:=@wpIn_seq
def qaz:=@Array.getElem?_append
def qaA:=@Nat.ne_of_beq_eq_false
def qaB:=@getElem!_pos
def qaC:=@decide_eq_false_iff_not
def qaD:=@Bool.not_true
def qaE:=@Nat.lt_irrefl
def qaF:=@Array.getElem?_setIfInBounds_self_of_lt
def qaG:=@Array.toList_map
def qaH:=@not_true_eq_false
def qaI:=@Addr.mk.injEq
def qaJ:=@true_and
def qaK:=@wpListIn_step
def qaL:=@Array.size_map
def qaM:=@List.getD_eq_getElem?_getD
def qaN:=@List.not_mem_nil
def qaO:=@List.getElem?_eq_none
def qaP:=@Nat.not_lt_zero
def qaQ:=@Oper.semAt_eq
def qaR:=@Nat.not_lt
def qaS:=@Nat.lt_or_eq_of_le
def qaT:=@Array.getElem?_setIfInBounds_ne
def qaU:=@or_false
def qaV:=@of_decide_eq_true
def qaW:=@run_callFunc_extern
def qaX:=@Array.getElem?_toList
def qaY:=@Eq.trans
def qaZ:=@List.length_set
def qa0:=@Nat.le_add_right
def qa1:=@Array.eq_empty_of_size_eq_zero
def qa2:=@heap_alloc_new
def qa3:=@Nat.add_sub_cancel_left
def qa4:=@wpIn_cond
def qa5:=@Prod.exists
def qa6:=@wpIn_region_list
def qa7:=@Bool.false_or
def qa8:=@Nat.beq_refl
def qa9:=@Nat.min_def
def qba:=@Nat.mul_one
def qbb:=@List.drop_eq_getElem_cons
def qbc:=@List.mem_of_mem_take
def qbd:=@List.mem_of_mem_drop
def qbe:=@Option.getD_some
def qbf:=@List.take_length
def qbg:=@Option.isSome_some
def qbh:=@Nat.add_zero
def qbi:=@run_storeCells_at
def qbj:=@setRow_other
def qbk:=@run_append_own_at
def qbl:=@Classical.not_not
def qbm:=@exists_false
def qbn:=@Array.getElem?_replicate
def qbo:=@IntKind.wrap_i64
def qbp:=@Nat.ne_of_gt
def qbq:=@Nat.lt_or_gt_of_ne
def qbr:=@Array.getElem?_modify
def qbs:=@Array.size_append
def qbt:=@List.length_singleton
def qbu:=@Array.all_eq_true_iff_forall_mem
def qbv:=@Array.mapM_eq_mapM_toList
def qbw:=@Classical.choose_spec
def qbx:=@Array.getElem?_eq_none_iff
def qby:=@Array.getElem?_append_left
def qbz:=@Array.getElem?_mapIdx
end
end Go
open Int (toNat)
open Sum (inl inr)
open List (replicate)
noncomputable section
namespace Go.TQ
section
inductive PV where
 |any
 |undef
 |int (k:IntKind) (n:Int)
 |bool (b:Bool)
 |dI
 |str (s:ByteArray)
 |fF
 |cu
 |aT (f:FuncId) (caps:List PV)
 |fe (f:FuncId) (first:List PV)
 |agg (cs:List PV)
 |cg (cs:List PV)
 |ptr (id ab off:Nat)
 |ref (cs:List PV)
 |sl (es:List (List PV))
 |own (id ab:Nat)
 |cp (id ab k i off:Nat)
 |view (id ab k lo n:Nat)
 |gm (ks vs:List PV)
 |jc (b:Bool)
 |fH (T:TypeId) (x:PV)
def PV.plain:PV->Bool
 | .int ..| .bool _| .dI| .str _| .fF| .cu| .any| .undef| .jc _| .fH ..=>true
 |_=>false
structure Gh where
 N:Nat
 L:Nat->Value
 V:Nat->Nat
def cn:Gh:=⟨0,λ_=> .bool false,λ_=>0⟩
def bp:Va->Y Nat
 | .pointer (some a)| .slice (some a) _ _=>some a.block
 |_=>none
def KN(l:Va)(k lo n:Nat)(a:Y Addr)(c:Nat):Prop:=
 ∃b m c0,l= .slice b m c0/\lo+n<=m/\m<=c0/\c=c0 - lo/\((n=0/\lo≠0/\(a=none->b=none))\/a=b.map (·.add (lo*k)))
inductive aJ (w:World) (M:Nat->Prop):Gh->PV->Value->Prop where
 |any {G:Gh} (v:Value):aJ w M G .any v
 |undef {G:Gh}:aJ w M G .undef Go.undef
 |int {G:Gh} (k:IntKind) (n:Int):aJ w M G (.int k n) (.int k n)
 |bool {G:Gh} (b:Bool):aJ w M G (.bool b) (.bool b)
 |dI {G:Gh} (b:Bool):aJ w M G .dI (.bool b)
 |str {G:Gh} (s:ByteArray):aJ w M G (.str s) (.string s)
 |fF {G:Gh}:aJ w M G .fF (.pointer none)
 |cu {G:Gh}:aJ w M G .cu (.slice none 0 0)
 |aT {G:Gh} (f:FuncId) (caps:List PV) (vs:List Value) (hl:vs.length=caps.length) (h:∀(i:Nat) (x:PV) (v:Value),caps[i]?=some x->vs[i]?=some v->aJ w M G x v):aJ w M G (.aT f caps) (.func (.func f) #[] vs.toArray)
 |fe {G:Gh} (f:FuncId) (cs:List PV) (vs:List Value) (hl:vs.length=cs.length) (h:∀(i:Nat) (x:PV) (v:Value),cs[i]?=some x->vs[i]?=some v->aJ w M G x v):aJ w M G (.fe f cs) (.func (.func f) vs.toArray #[])
 |agg {G:Gh} (cs:List PV) (vs:List Value) (hl:vs.length=cs.length) (h:∀(i:Nat) (x:PV) (v:Value),cs[i]?=some x->vs[i]?=some v->aJ w M G x v):aJ w M G (.agg cs) (.agg vs.toArray)
 |cg {G:Gh} (cs:List PV) (vs:List Value) (hl:vs.length=cs.length) (h:∀(i:Nat) (x:PV) (v:Value),cs[i]?=some x->vs[i]?=some v->aJ w M G x v):aJ w M G (.cg cs) (.tuple vs.toArray)
 |ptr {G:Gh} (id ab off:Nat) (a:Option Addr) (hN:id<G.N) (hV:ab<=G.V id) (h:ab=G.V id->a=(bp (G.L id)).map λb=>⟨b,off,none⟩):aJ w M G (.ptr id ab off) (.pointer a)
 |ref {G:Gh} (cs:List PV) (a:Addr) (vs:List Value) (hl:vs.length=cs.length) (hc:∀(i:Nat) (v:Value),vs[i]?=some v->w.cell? (a.add i)=some v/\¬M a.block)
   (h:∀(i:Nat) (x:PV) (v:Value),cs[i]?=some x->vs[i]?=some v->aJ w M cn x v):aJ w M G (.ref cs) (.pointer (some a))
 |sl {G:Gh} (es:List (List PV)) (a:Addr) (c k:Nat) (vs:List Value) (hk:∀e∈es,e.length=k) (hl:vs.length=es.flatten.length) (hc:∀(i:Nat) (v:Value),vs[i]?=some v->w.cell? (a.add i)=some v/\¬M a.block)
   (h:∀(i:Nat) (x:PV) (v:Value),es.flatten[i]?=some x->vs[i]?=some v->aJ w M cn x v) (hn:es.length<=c) (hm:c<=maxLen):aJ w M G (.sl es) (.slice (some a) es.length c)
 |slnil {G:Gh}:aJ w M G (.sl []) (.slice none 0 0)
 |own {G:Gh} (id ab:Nat) (a:Option Addr) (n c:Nat) (hN:id<G.N) (hV:ab<=G.V id) (h:ab=G.V id-> .slice a n c=G.L id):aJ w M G (.own id ab) (.slice a n c)
 |cp {G:Gh} (id ab k i off:Nat) (a:Option Addr) (hN:id<G.N) (hV:ab<=G.V id) (h:ab=G.V id->a=(bp (G.L id)).map λb=>⟨b,i*k+off,none⟩):aJ w M G (.cp id ab k i off) (.pointer a)
 |view {G:Gh} (id ab k lo n:Nat) (a:Option Addr) (c:Nat) (hN:id<G.N) (hV:ab<=G.V id) (h:ab=G.V id->KN (G.L id) k lo n a c):aJ w M G (.view id ab k lo n) (.slice a n c)
 |gm {G:Gh} (ks vs:List PV) (b:Nat) (es:Array MapEntry) (ck:Nat) (hb:w.heap[b]?=some (.map es ck)) (hM:¬M b) (hk:es.size=ks.length) (hv:es.size=vs.length)
   (h1:∀(i:Nat) (x:PV) (e:MapEntry),ks[i]?=some x->es[i]?=some e->aJ w M cn x e.key) (h2:∀(i:Nat) (x:PV) (e:MapEntry),vs[i]?=some x->es[i]?=some e->aJ w M cn x e.val):aJ w M G (.gm ks vs) (.map (some b))
 |qm {G:Gh}:aJ w M G (.jc true) .nilIface
 |rM {G:Gh} (T:TypeId) (v:Value):aJ w M G (.jc false) (.iface T v)
 |fH {G:Gh} (T:TypeId) (x:PV) (v:Value) (hp:x.plain=true) (h:aJ w M cn x v):aJ w M G (.fH T x) (.iface T v)
def aK(w:Wo)(M:Nat->Prop)(G:Gh)(cs:Z PV)(vs:Z Va):Prop:=
 vs.length=cs.length/\∀(i:Nat) (x:PV) (v:Va),cs[i]?=some x->vs[i]?=some v->aJ w M G x v
structure Gh.le (G G':Gh):Prop where
 N:G.N<=G'.N
 at_:∀id,id<G.N->(G.V id=G'.V id/\G.L id=G'.L id)\/G.V id<G'.V id
def Gh.le.refl(G:Gh):G.le G:=⟨Ql _,λ_ _=> .inl ⟨rfl,rfl⟩⟩
structure bN (w w':World) (M M':Nat->Prop):Prop where
 c:∀(a:Addr) (v:Value),w.cell? a=some v->¬M a.block->w'.cell? a=some v/\¬M' a.block
 m:∀(b:Nat) (es:Array MapEntry) (ck:Nat),w.heap[b]?=some (.map es ck)->¬M b->w'.heap[b]?=some (.map es ck)/\¬M' b
def bN.of{w:Wo}{M M':Nat->Prop}(h:∀b,¬M b->¬M' b):bN w w M M':=⟨λ_ _ d c=>⟨d,h _ c⟩,λ_ _ _ e c=>⟨e,h _ c⟩⟩
def bN.trans{a b c:Wo}{M M' M'':Nat->Prop}(h:bN a b M M')(k:bN b c M' M''):bN a c M M'':=
 ⟨λp v d e=>let⟨h1,f⟩:=h.c p v d e;k.c p v h1 f,λp es g d e=>let⟨h1,f⟩:=h.m p es g d e;k.m p es g h1 f⟩
def aJ.Vk{w w':Wo}{M M':Nat->Prop}{G:Gh}(hs:bN w w' M M'){x:PV}{v:Va}(h:aJ w M G x v):∀G',G.le G'->aJ w' M' G' x v:=by
 induction h with
 |any v=>exact λ_ _=> .any v
 |undef=>exact λ_ _=> .undef
 |int k n=>exact λ_ _=> .int k n
 |bool b=>exact λ_ _=> .bool b
 |dI b=>exact λ_ _=> .dI b
 |str s=>exact λ_ _=> .str s
 |fF=>exact λ_ _=> .fF
 |cu=>exact λ_ _=> .cu
 |aT f u vs p _ m=>exact λG' d=> .aT f u vs p λi x v j g=>m i x v j g G' d
 |fe f cs vs p _ m=>exact λG' d=> .fe f cs vs p λi x v j g=>m i x v j g G' d
 |agg cs vs p _ m=>exact λG' d=> .agg cs vs p λi x v j g=>m i x v j g G' d
 |cg cs vs p _ m=>exact λG' d=> .cg cs vs p λi x v j g=>m i x v j g G' d
 |ptr id ab off a l D h=>
  intro G' d;refine .ptr id ab off a (QF l d.N) ?_ ?_
  .rcases d.at_ id l with⟨e,_⟩|e<;>omega
  .intro e;rcases d.at_ id l with⟨t,r⟩|t
   .rw[<-r];exact h O
   .omega
 |ref cs a vs p B _ m=>
  intro G' _
  exact .ref cs a vs p (λi v g=>by
   let⟨h1,F⟩:=B i v g
   have q:(a.add i).block=a.block:=by unfold Addr.add;split<;>rfl
   have:=hs.c _ _ h1 (by rw[q];exact F)
   rw[q]at this
   exact this) λi x v j g=>m i x v j g cn (Gh.le.refl _)
 |sl es a c k vs hk p B _ J hm m=>
  intro G' _
  exact .sl es a c k vs hk p (λi v g=>by
   let⟨h1,F⟩:=B i v g
   have q:(a.add i).block=a.block:=by unfold Addr.add;split<;>rfl
   have:=hs.c _ _ h1 (by rw[q];exact F)
   rw[q]at this
   exact this) (λi x v j g=>m i x v j g cn (Gh.le.refl _)) J hm
 |slnil=>exact λ_ _=> .slnil
 |own id ab a n c l D h=>
  intro G' d;refine .own id ab a n c (QF l d.N) ?_ ?_
  .rcases d.at_ id l with⟨e,_⟩|e<;>omega
  .intro e;rcases d.at_ id l with⟨t,r⟩|t
   .rw[<-r];exact h O
   .omega
 |cp id ab k i off a l D h=>
  intro G' d;refine .cp id ab k i off a (QF l d.N) ?_ ?_
  .rcases d.at_ id l with⟨e,_⟩|e<;>omega
  .intro e;rcases d.at_ id l with⟨t,r⟩|t
   .rw[<-r];exact h O
   .omega
 |view id ab k lo n a c l D h=>
  intro G' d;refine .view id ab k lo n a c (QF l d.N) ?_ ?_
  .rcases d.at_ id l with⟨e,_⟩|e<;>omega
  .intro e;rcases d.at_ id l with⟨t,r⟩|t
   .rw[<-r];exact h O
   .omega
 |gm ks vs b es K q H hk g _ _ z y=>intro G' _;exact .gm ks vs b es K (hs.m _ _ _ q H).1 (hs.m _ _ _ q H).2 hk g (λi x e j A=>z i x e j A cn (Gh.le.refl _)) λi x e j A=>y i x e j A cn (Gh.le.refl _)
 |qm=>exact λ_ _=> .qm
 |rM T v=>exact λ_ _=> .rM T v
 |fH T x v I _ m=>exact λ_ _=> .fH T x v I (m cn (Gh.le.refl _))
def aJ.mono{w w':Wo}{M M':Nat->Prop}{G G':Gh}(hs:bN w w' M M')(b:G.le G'){x:PV}{v:Va}(h:aJ w M G x v):aJ w' M' G' x v:=h.Vk hs G' b
def cn.le(G:Gh):cn.le G:=⟨Q7 _,λ_ h=>absurd h (qaP _)⟩
def aK.mono{w w':Wo}{M M':Nat->Prop}{G G':Gh}(hs:bN w w' M M')(d:G.le G'){cs:Z PV}{vs:Z Va}(h:aK w M G cs vs):aK w' M' G' cs vs:=
 ⟨h.1,λi x v b c=>(h.2 i x v b c).mono hs d⟩
section
variable{w:Wo}{M:Nat->Prop}{G:Gh}
def aK.nil:aK w M G [] []:=⟨rfl,λi x v h _=>by simp at h⟩
def aK.cons{x:PV}{v:Va}{cs:Z PV}{vs:Z Va}(h:aJ w M G x v)(t:aK w M G cs vs):aK w M G (x::cs) (v::vs):=by
 refine⟨by simp[t.1],λi y u b c=> ?_⟩
 cases i with
 |zero=>simp at b c;subst b c;exact h
 |succ i=>simp at b c;exact t.2 i y u b c
def aK.cons_inv{x:PV}{cs:Z PV}{vs:Z Va}(h:aK w M G (x::cs) vs):∃v vs',vs=v::vs'/\aJ w M G x v/\aK w M G cs vs':=by
 let⟨b,h⟩:=h
 cases vs with
 |nil=>simp at b
 |cons v vs=>exact⟨v,vs,rfl,h 0 x v t_ t_,by simpa using b,λi y u c d=>h (i+1) y u (by simpa using c) (by simpa using d)⟩
def aK.lF{vs:Z Va}(h:aK w M G [] vs):vs=[]:=qah h.1
def aK.append{cs d:Z PV}{vs us:Z Va}(h:aK w M G cs vs)(k:aK w M G d us):aK w M G (cs++d) (vs++us):=by
 refine⟨by simp[h.1,k.1],λi x v b c=> ?_⟩
 by_cases hi:i<cs.length
 .rw[List.getElem?_append_left hi]at b;rw[List.getElem?_append_left (by rw[h.1];exact hi)]at c
  exact h.2 i x v b c
 .rw[List.getElem?_append_right O]at b;rw[List.getElem?_append_right (by rw[h.1];omega),h.1]at c
  exact k.2 _ x v b c
def aK.take{cs:Z PV}{vs:Z Va}(h:aK w M G cs vs)(n:Nat):aK w M G (cs.take n) (vs.take n):=by
 refine⟨by simp[h.1],λi x v b c=> ?_⟩
 rw[qat]at b c;split at b
 .rename_i hi;rw[Qc hi]at c;exact h.2 i x v b c
 .cases b
def aK.drop{cs:Z PV}{vs:Z Va}(h:aK w M G cs vs)(n:Nat):aK w M G (cs.drop n) (vs.drop n):=by
 refine⟨by simp[h.1],λi x v b c=> ?_⟩
 rw[List.getElem?_drop]at b c;exact h.2 _ x v b c
def aK.get{cs:Z PV}{vs:Z Va}(h:aK w M G cs vs){i:Nat}{x:PV}(b:cs[i]?=some x):∃v,vs[i]?=some v/\aJ w M G x v:=by
 have hi:i<vs.length:=by rw[h.1];exact(QI.1 b).1
 exact⟨vs[i],Qt hi,h.2 i x _ b (Qt hi)⟩
def PV.one:PV->Bool
 | .int ..| .bool _| .dI| .str _| .fF| .cu| .aT ..| .fe ..| .ptr ..| .cp ..| .ref _| .sl _| .own ..| .view ..| .gm ..| .jc _| .fH ..=>true
 |_=>false
def PV.cells:PV->Z PV
 | .agg cs=>cs
 |x=>[x]
def aJ.one{x:PV}{v:Va}(h:aJ w M G x v)(b:x.one=true):v.oneCell'=true/\v.cells=#[v]:=by cases h<;>simp[PV.one]at b<;>exact⟨rfl,rfl⟩
def aJ.cells{x:PV}{v:Va}(h:aJ w M G x v)(d:∀y∈x.cells,y.one=true):aK w M G x.cells v.cells.toList/\∀u∈v.cells.toList,u.oneCell'=true:=by
 have go:∀{cs:Z PV} {vs:Z Va},aK w M G cs vs->(∀y∈cs,y.one=true)->∀u∈vs,u.oneCell'=true:=by
  intro cs vs c d u f;obtain⟨i,hi,rfl⟩:=List.mem_iff_getElem.1 f;have b:i<cs.length:=by rw[<-c.1];exact hi
  exact((c.2 i cs[i] vs[i] (Qt b) (Qt hi)).one (d _ (qam b))).1
 cases b:x with
 |agg cs=>
  subst b
  cases h with
  |agg _ vs g h=>have c:aK w M G cs vs:=⟨g,h⟩;exact⟨by simpa[PV.cells,Value.cells]using c,by simpa[Value.cells]using go c (by simpa[PV.cells]using d)⟩
 |_=>
  have e:x.cells=[x]:=by rw[b];rfl
  rw[<-b];rw[e]at d
  let⟨k,j⟩:=h.one (d x t_)
  rw[e,j];exact⟨.cons h .nil,by simpa using k⟩
end
end
section
open Go.RowKit
inductive ji where
 |dead
 |box (cs:List PV)
 |row (e:TypeId) (k:Nat) (es:List (List PV))
structure dg where
 ab:Nat
 c:ji
def ji.live:ji->Bool
 | .dead=>false
 |_=>true
structure St where
 env:Nat->PV
 H:Nat->dg
 N:Nat
def bd{α:Type}(f:Nat->α)(i:Nat)(x:α):Nat->α:=λj=>if j=i then x else f j
theorem bf{α:Type}(f:Nat->α)(i:Nat)(x:α):bd f i x i=x:=by simp[bd]
theorem bq{α:Type}(f:Nat->α){i j:Nat}(x:α)(h:j≠i):bd f i x j=f j:=by simp[bd,h]
def PH:Obj->Bool
 | .cells ..=>true
 |_=>false
def CD:Obj->Bool
 | .cells ..| .map ..=>true
 |_=>false
def Lx{o:Obj}(h:PH o=true):CD o=true:=by cases o<;>first|rfl|cases h
structure Kept (w w':World) (M M':Nat->Prop):Prop where
 k:∀(b:Nat) (o:Obj),w.heap[b]?=some o->CD o=true->¬M b->w'.heap[b]?=some o/\¬M' b
def Kept.trans{a b c:Wo}{M M' M'':Nat->Prop}(h:Kept a b M M')(k:Kept b c M' M''):Kept a c M M'':=⟨λq o i d g=>let⟨f,e⟩:=h.k q o i d g;k.k q o f d e⟩
def Kept.top(w w':Wo)(M':Nat->Prop):Kept w w' (λ_=>True) M':=⟨λ_ _ _ _ b=>absurd trivial b⟩
def Kept.of{w:Wo}{M M':Nat->Prop}(h:∀b,¬M b->¬M' b):Kept w w M M':=⟨λb _ d _ c=>⟨d,h b c⟩⟩
def Kept.stays{w w':Wo}{M M':Nat->Prop}(h:Kept w w' M M'):bN w w' M M':=by
 refine⟨λp v c f=> ?_,λb es k i f=>h.k b _ i rfl f⟩
 have g:∃o,w.heap[p.block]?=some o/\CD o=true:=by
  unfold World.cell? at c
  cases d:w.heap[p.block]? with
  |none=>rw[d]at c;simp at c
  |some o=>refine⟨o,rfl,?_⟩;rw[d]at c;cases o<;>first|rfl|(simp at c)
 let⟨o,d,e⟩:=g
 let⟨h1,j⟩:=h.k _ o d e f
 exact⟨(World.cell?_of_block (h1.trans d.symm)).trans c,j⟩
structure vE (w w':World):Prop where
 size:w.heap.size<=w'.heap.size
 same:∀(k:Nat) (o:Obj),w.heap[k]?=some o->PH o=false->w'.heap[k]?=some o
def vE.refl(w:Wo):vE w w:=⟨Ql _,λ_ _ h _=>h⟩
def vE.trans{a b c:Wo}(h:vE a b)(k:vE b c):vE a c:=⟨QS h.size k.size,λi o hi d=>k.same i o (h.same i o hi d) d⟩
def WF(rd:Y Nat):Fence:={Fence.wide with round:=rd}
def wG{rd:Y Nat}{n:Nat}{P:Pr}{f:FI}{b:Array Va}{w:Wo}{R:Ending->Wo->Prop}:CallsIn (WF rd) n P f b w R↔Calls P f b w R:=
 (show CallsIn (WF rd) n P f b w R↔CallsIn Fence.wide n P f b w R from Iff.rfl).trans callsIn_wide
def Ms:Z (Nat×(Obj->Prop)):=[]
def gb(b:Nat):Prop:=∃q∈Ms,q.1=b
def GI(w:Wo):Prop:=∀q∈Ms,∃o,w.heap[q.1]?=some o/\q.2 o
structure o3 (w:World) (X:Nat->Prop):Prop where
 lt:∀b,X b->b<w.heap.size
 ng:∀b,X b->¬gb b
 gi:GI w
def GI.lt{w:Wo}(h:GI w){b:Nat}(d:gb b):b<w.heap.size:=by
 obtain⟨q,c,rfl⟩:=d
 let⟨o,e,_⟩:=h q c
 grind
def GI.cO{w w':Wo}(h:GI w)(f:∀b,gb b->w'.heap[b]?=w.heap[b]?):GI w':=λq c=>by
 let⟨o,e,d⟩:=h q c
 exact⟨o,(f _ ⟨q,c,rfl⟩).trans e,d⟩
def o3.nil{w:Wo}(h:GI w):o3 w λ_=>False:=⟨λ_ b=>b.elim,λ_ b=>b.elim,h⟩
structure En where
 w0:World
 rb:Option Nat
 nt:Nat
 rd:Option Nat
 nd:Bool
 kt:Nat->Option Value
 wk:World
 wm:World
 M0:Nat->Prop
 X:Nat->Prop
 H0:Nat->Prop
 hX:o3 w0 λb=>X b/\¬H0 b
 Fa:Bool
 rv:Value
 rk:Bool
 gy:Nat->Option (Nat×Value):=λ_=>none
 vD:∀b,rb=some b->b<w0.heap.size/\¬gb b
 Gn:rk=true->∀b,rb=some b->¬X b
def dQ(E:En)(v:Va):Nat:=if E.rk=true/\E.rb≠none/\bp v=E.rb then 0 else E.w0.heap.size
def vn{E:En}{v v':Va}(h:bp v=bp v'):dQ E v=dQ E v':=by simp[dQ,h]
def FK(E:En)(v:Va):dQ E v<=E.w0.heap.size:=by unfold dQ;split<;>omega
theorem Ei{E:En}{v:Va}{g:Nat}(h:bp v=some g)(b:E.w0.heap.size<=g):dQ E v=E.w0.heap.size:=by unfold dQ;rw[Qg];rintro⟨_,_,h1⟩;rw[h]at h1;have:=(E.vD g h1.symm).1;omega
def AH{E:En}{v:Va}{g:Nat}(h:bp v=some g)(b:dQ E v<=g):(E.rk=true/\E.rb=some g)\/E.w0.heap.size<=g:=by grind [dQ]
def jl:Bool:=true
def DL(w w':Wo):Prop:=jl=true->w.drawn<=w'.drawn
def DL.refl(w:Wo):DL w w:=λ_=>Ql _
def DL.of{w w':Wo}(h:w.drawn<=w'.drawn):DL w w':=λ_=>h
def DL.trans{a b c:Wo}(h:DL a b)(k:DL b c):DL a c:=λe=>QS (h e) (k e)
structure Fr (rb:Option Nat) (w0 w:World):Prop where
 os:w.os=w0.os
 tape:w.tape=w0.tape
 output:w.output=w0.output
 size:w0.heap.size<=w.heap.size
 block:∀b,b<w0.heap.size->rb≠some b->w.heap[b]?=w0.heap[b]?
 drawn:DL w0 w
def Fr.refl(rb:Y Nat)(w:Wo):Fr rb w w:=⟨rfl,rfl,rfl,Ql _,λ_ _ _=>rfl,DL.refl _⟩
def aI(E:En)(S:St)(L:Nat->Va)(b:Nat):Prop:=(∃id,id<S.N/\(S.H id).c.live=true/\bp (L id)=some b)\/E.X b
def St.gh(S:St)(L:Nat->Va):Gh:=⟨S.N,L,λid=>(S.H id).ab⟩
def iD(E:En)(w:Wo)(M:Nat->Prop)(G:Gh)(v:Va):ji->Prop
 | .dead=>True
 | .box cs=>∃(b:Nat) (c:Array Va) (T:TI),v= .pointer (some ⟨b,0,none⟩)/\w.heap[b]?=some (.cells c T (0,0))/\(E.rb=some b\/E.w0.heap.size<=b)/\aK w M G cs c.toList
 | .row e k es=>∃(vs:Z Va),w.ownsRow (dQ E v) e k v es.length vs/\(∀x∈es,x.length=k)/\aK w M G es.flatten vs
def En.can(E:En)(d:Nat):Prop:=d<E.nt/\E.kt d=none
structure Marks (E:En) (a:Act) (w:World):Prop where
 none:E.nd=true->a.defers=[]
 nodup:a.defers.Nodup
 at_:∀d∈a.defers,∃D,d={target:= .collected D,args:=#[]}/\E.w0.heap.size<=D/\w.heap[D]?=some (.deferred (some []))
def Marks.nil{E:En}{a:Act}{w:Wo}(h:a.defers=[]):Marks E a w:=⟨λ_=>h,by rw[h];exact List.nodup_nil,λd b=>by rw[h]at b;cases b⟩
structure V1 (E:En) (w:World):Prop extends Fr E.rb E.w0 w where
 ko:vE E.wk w
structure Rel (E:En) (S:St) (a:Act) (w:World) (L:Nat->Value):Prop where
 defers:Marks E a w
 size:a.tmps.size=E.nt/\∀t v,E.kt t=some v->a.tmps.getD t undef=v
 env:∀t,aJ w (aI E S L) (S.gh L) (S.env t) (a.tmps.getD t undef)
 obj:∀id,id<S.N->iD E w (aI E S L) (S.gh L) (L id) (S.H id).c
 apart:∀i j b,i<S.N->j<S.N->(S.H i).c.live=true->(S.H j).c.live=true->bp (L i)=some b->bp (L j)=some b->i=j
 fresh:∀id,S.N<=id->S.H id=⟨0,.dead⟩
 fr:V1 E w
 sP:E.Fa=true->(S.H 0).c.live=true->(S.H 0).ab=0->L 0=E.rv
 gy:∀id n v,E.gy id=some (n,v)->id<S.N/\n<=(S.H id).ab/\((S.H id).ab=n->L id=v)
 an:Kept E.wm w E.M0 (aI E S L)/\(∀id b,id<S.N->(S.H id).c.live=true->bp (L id)=some b->E.rb=some b->id=0)/\
  ∀b,E.H0 b->¬gb b/\(∃o,E.wm.heap[b]?=some o/\CD o=true/\w.heap[b]?=some o)/\∀id,id<S.N->(S.H id).c.live=true->bp (L id)≠some b
def qg(E:En)(S:St):Prop:=∀id n v,E.gy id=some (n,v)->id<S.N/\n<=(S.H id).ab
def qg.none{E:En}{S:St}(h:∀id,E.gy id=none):qg E S:=λid n v hi=>by rw[h]at hi;cases hi
def Rel.MP{E:En}{S:St}{a:Act}{w:Wo}{L:Nat->Va}(h:Rel E S a w L):qg E S:=λid n v hi=>let⟨h1,b,_⟩:=h.gy id n v hi;⟨h1,b⟩
theorem C1(a:Addr)(i:Nat):(a.add i).block=a.block:=by unfold Addr.add;split<;>rfl
def LJ{w:Wo}{a:Addr}{v:Va}(h:w.cell? a=some v):a.block<w.heap.size:=World.block_lt_of_cell? w a h
def iD.mono{E:En}{w w':Wo}{M M':Nat->Prop}{G G':Gh}{v:Va}{c:ji}(hs:bN w w' M M')(m:G.le G')
  (n:∀b,bp v=some b->b<w.heap.size->w'.heap[b]?=w.heap[b]?) (h:iD E w M G v c):iD E w' M' G' v c:=by
 cases c with
 |dead=>trivial
 |box cs=>obtain⟨b,d,T,rfl,f,q,i⟩:=h;exact⟨b,d,T,rfl,(n b rfl (QG.1 f).1).trans f,q,i.mono hs m⟩
 |row e k cs=>
  let⟨vs,l,hk,i⟩:=h
  refine⟨vs,⟨l.1,?_⟩,hk,i.mono hs m⟩;rcases l.2 with p|⟨g,cap,d,rfl,j,f,rest⟩
  .exact .inl p
  .exact .inr ⟨g,cap,d,rfl,j,(n g rfl (QG.1 f).1).trans f,rest⟩
def iD.pI{E:En}{w:Wo}{M:Nat->Prop}{G:Gh}{v:Va}{c:ji}(h:iD E w M G v c)(m:c.live=true){b:Nat}(f:bp v=some b):
  b<w.heap.size/\(E.rb=some b\/E.w0.heap.size<=b):=by
 cases c with
 |dead=>cases m
 |box cs=>
  obtain⟨p,i,T,rfl,j,n,_⟩:=h
  grind [bp]
 |row e k cs=>
  let⟨vs,l,_⟩:=h
  rcases l.2 with⟨rfl,_⟩|⟨g,cap,i,rfl,d,j,rest⟩
  .simp[bp]at f
  .simp[bp,Qb]at f;subst f;exact⟨(QG.1 j).1,(AH rfl d).imp (·.2) id⟩
section
variable{E:En}{S:St}{a:Act}{w:Wo}{L:Nat->Va}
def Marks.Tp{w':Wo}(h:Marks E a w)(b:vE w w'):Marks E a w':=⟨h.none,h.nodup,λd c=>by
 let⟨D,h1,f,e⟩:=h.at_ d c
 exact⟨D,h1,f,b.same D _ e rfl⟩⟩
def iD.cells{M:Nat->Prop}{G:Gh}{v:Va}{c:ji}(h:iD E w M G v c)(l:c.live=true){b:Nat}(d:bp v=some b):∃o,w.heap[b]?=some o/\PH o=true:=by
 cases c with
 |dead=>cases l
 |box cs=>obtain⟨p,i,T,rfl,f,n,_⟩:=h;simp[bp,Qb]at d;subst d;exact⟨_,f,rfl⟩
 |row e k cs=>
  let⟨vs,j,_⟩:=h
  rcases j.2 with⟨rfl,_⟩|⟨g,cap,i,rfl,m,f,rest⟩
  .simp[bp]at d
  .simp[bp,Qb]at d;subst d;exact⟨_,f,rfl⟩
def EI{a:Act}{d t:Nat}{v:Va}(h:t≠d):(a.put (some d) v).tmps.getD t undef=a.tmps.getD t undef:=by
 simp[Act.put,Qy]
 grind
def Rel.put(h:Rel E S a w L){d:Nat}{x:PV}{v:Va}(f:E.can d)(g:aJ w (aI E S L) (S.gh L) x v):
  Rel E {S with env:=bd S.env d x} (a.put (some d) v) w L:=by
 refine⟨⟨h.defers.none,h.defers.nodup,h.defers.at_⟩,⟨by simp[Act.put,h.size.1],λt u b=> ?_⟩,λt=> ?_,h.obj,h.apart,h.fresh,h.fr,h.sP,h.gy,h.an⟩
 .rw[EI (λe=>by subst e;rw[f.2]at b;cases b)]
  exact h.size.2 t u b
 show aJ w (aI E S L) (S.gh L) (bd S.env d x t) _
 by_cases c:t=d
 .subst c;have:(a.put (some t) v).tmps.getD t undef=v:=by simp[Act.put,Qy,qaF (show t<a.tmps.size by rw[h.size.1];exact f.1)]
  rw[this,bf];exact g
 .have:(a.put (some d) v).tmps.getD t undef=a.tmps.getD t undef:=by
   simp[Act.put,Qy]
   grind
  rw[this,bq _ _ c];exact h.env t
def Rel.grow(h:Rel E S a w L){w':Wo}(l:w'.os=w.os)(c:w'.tape=w.tape)(f:w'.output=w.output)(e:w.heap.size<=w'.heap.size)
  (d:∀b,b<w.heap.size->w'.heap[b]?=w.heap[b]?) (hdr:DL w w':=by first|exact DL.refl _|exact DL.of (Ql _)|exact DL.of (by first|(simp;done)|omega)):Rel E S a w' L/\bN w w' (aI E S L) (aI E S L):=by
 have hs:bN w w' (aI E S L) (aI E S L):=⟨λp v q g=>⟨(World.cell?_of_block (d _ (LJ q))).trans q,g⟩,λk _ _ i g=>⟨(d k (QG.1 i).1).trans i,g⟩⟩
 have r:vE w w':=⟨e,λk o i _=>(d k (QG.1 i).1).trans i⟩
 refine⟨⟨h.defers.Tp r,h.size,λt=>(h.env t).mono hs (Gh.le.refl _),λid n=>(h.obj id n).mono hs (Gh.le.refl _) (λb _ m=>d b m),h.apart,h.fresh,
  ⟨⟨l.trans h.fr.os,c.trans h.fr.tape,f.trans h.fr.output,QS h.fr.size e,λb j u=>(d b (QF j h.fr.size)).trans (h.fr.block b j u),h.fr.drawn.trans hdr⟩,h.fr.ko.trans r⟩,h.sP,h.gy,h.an.1.trans ⟨λb o j _ g=>⟨(d b (QG.1 j).1).trans j,g⟩⟩,h.an.2.1,λb s=>(let⟨q1,⟨o,q2,q3,q4⟩,q5⟩:=h.an.2.2 b s;⟨q1,⟨o,q2,q3,(d b (QG.1 q4).1).trans q4⟩,q5⟩)⟩,hs⟩
def Rel.nM(h:Rel E S a w L){w':Wo}{id:Nat}(F:id<S.N)(o:dg)(l:Va)
  (hv:(o.ab=(S.H id).ab/\l=L id/\(S.H id).c.live=true)\/(S.H id).ab<o.ab)
  (hos:w'.os=w.os) (K:w'.tape=w.tape) (T:w'.output=w.output) (R:w.heap.size<=w'.heap.size)
  (W:∀b,b<w.heap.size->((S.H id).c.live=true->bp (L id)≠some b)->w'.heap[b]?=w.heap[b]?)
  (hl:∀b,o.c.live=true->bp l=some b->((S.H id).c.live=true/\bp (L id)=some b)\/w.heap.size<=b)
  (hnew:bN w w' (aI E S L) (aI E {S with H:=bd S.H id o} (bd L id l))->(S.gh L).le (St.gh {S with H:=bd S.H id o} (bd L id l))->
   iD E w' (aI E {S with H:=bd S.H id o} (bd L id l)) (St.gh {S with H:=bd S.H id o} (bd L id l)) l o.c)
  (hdr:DL w w':=by first|exact DL.refl _|exact DL.of (Ql _)|exact DL.of (by first|(simp;done)|omega)):
  Rel E {S with H:=bd S.H id o} a w' (bd L id l)/\bN w w' (aI E S L) (aI E {S with H:=bd S.H id o} (bd L id l))/\(S.gh L).le (St.gh {S with H:=bd S.H id o} (bd L id l)):=by
 have hg:(S.gh L).le (St.gh {S with H:=bd S.H id o} (bd L id l)):=by
  refine⟨Ql _,λj q=> ?_⟩
  by_cases c:j=id
  .subst c;rcases hv with⟨e1,X,_⟩|e
   .exact .inl ⟨by simp[St.gh,bf,e1],by simp[St.gh,bf,X]⟩
   .grind [St.gh,bf]
  .exact .inl ⟨by simp[St.gh,bq _ _ c],by simp[St.gh,bq _ _ c]⟩
 have hm:∀b,b<w.heap.size->aI E {S with H:=bd S.H id o} (bd L id l) b->aI E S L b:=by
  rintro b s (⟨j,q,m,hblk⟩|hX)
  case inr=>exact .inr hX
  simp only at q m
  by_cases c:j=id
  .subst c;rw[bf]at m hblk;rcases hl b m hblk with⟨g,r⟩|g
   .exact .inl ⟨j,q,g,r⟩
   .omega
  .rw[bq _ _ c]at m hblk;exact .inl ⟨j,q,m,hblk⟩
 have ho:vE w w':=⟨R,λk o Q hc=>(W k (QG.1 Q).1 (λg r=>by
  let⟨o',I,h4⟩:=(h.obj id F).cells g r
  rw[Q]at I;injection I with I
  rw[I,h4]at hc
  cases hc)).trans Q⟩
 have hs:bN w w' (aI E S L) (aI E {S with H:=bd S.H id o} (bd L id l)):=by
  refine⟨λp v hp y=> ?_,λk _ _ Q y=>⟨ho.same k _ Q rfl,λB=>y (hm _ (QG.1 Q).1 B)⟩⟩
  have s:=LJ hp;exact⟨(World.cell?_of_block (W _ s (λg r=>y (.inl ⟨id,F,g,r⟩)))).trans hp,λB=>y (hm _ s B)⟩
 refine⟨⟨h.defers.Tp ho,h.size,λt=>(h.env t).mono hs hg,λj q=> ?_,?_,λj q=> ?_,?_,?_,λj n v q=> ?_,h.an.1.trans ⟨λb o g _ y=> ?_⟩,λj b q d f vD=> ?_,λb hH=> ?_⟩,hs,hg⟩
 rotate_left 6
 .have s:=(QG.1 g).1;exact⟨(W b s (λr I=>y (.inl ⟨id,F,r,I⟩))).trans g,λB=>y (hm b s B)⟩
 .simp only at q d
  by_cases c:j=id
  .subst c;rw[bf]at d f;rcases hl b d f with⟨g,r⟩|g
   .exact h.an.2.1 j b q g r vD
   .have:=(E.vD b vD).1;have:=h.fr.size;omega
  .rw[bq _ _ c]at d f;exact h.an.2.1 j b q d f vD
 .let⟨q2,⟨o,q3,q5,q6⟩,q4⟩:=h.an.2.2 b hH
  grind [bf,bq]
 .simp only at q ⊢
  by_cases c:j=id
  .grind [bf]
  .rw[bq _ _ c,bq _ _ c]
   cases d:(S.H j).c.live with
   |false=>
    cases hc:(S.H j).c with
    |dead=>trivial
    |box cs|row e k cs=>rw[hc]at d;cases d
   |true=>refine(h.obj j q).mono hs hg (λb f s=>W b s (λg r=>c (h.apart j id b q F d g f r)))
 .intro i j b hi q z u A f;simp only at hi q z u
  by_cases N:i=id
  .by_cases D:j=id
   .rw[N,D]
   .subst N;rw[bf]at z A;rw[bq _ _ D]at u f;rcases hl b z A with⟨g,r⟩|g
    .exact h.apart i j b hi q g u r f
    .have:=((h.obj j q).pI u f).1;omega
  .rw[bq _ _ N]at z A
   by_cases D:j=id
   .subst D;rw[bf]at u f;rcases hl b u f with⟨g,r⟩|g
    .exact h.apart i j b hi q z g A r
    .have:=((h.obj i hi).pI z A).1;omega
   .rw[bq _ _ D]at u f;exact h.apart i j b hi q z u A f
 .simp only at q ⊢;rw[bq _ _ O];exact h.fresh j q
 .refine⟨⟨hos.trans h.fr.os,K.trans h.fr.tape,T.trans h.fr.output,QS h.fr.size R,λb g r=> ?_,h.fr.drawn.trans hdr⟩,h.fr.ko.trans ho⟩
  refine(W b (QF g h.fr.size) (λI h4=> ?_)).trans (h.fr.block b g r)
  rcases((h.obj id F).pI I h4).2 with h5|h5
  .exact r h5
  .omega
 .intro V d J;simp only at d J
  by_cases U:0=id
  .subst U;rw[bf]at d J ⊢;rcases hv with⟨e1,X,e3⟩|e
   .rw[X];exact h.sP V e3 O
   .omega
  .rw[bq _ _ U]at d J ⊢;exact h.sP V d J
 .let⟨g,r,I⟩:=h.gy j n v q
  refine⟨g,?_⟩;simp only
  by_cases c:j=id
  .subst c;rw[bf,bf];rcases hv with⟨e1,X,_⟩|e
   .exact⟨O,λe=>X.trans (I O)⟩
   .exact⟨O,λe=>O⟩
  .rw[bq _ _ c,bq _ _ c];exact⟨r,I⟩
def Rel.drew(h:Rel E S a w L)(n:Nat)(b:w.drawn<=n:=by first|exact Ql _|exact qa0 _ _|exact qan _|assumption|omega):Rel E S a {w with drawn:=n} L:=
 (h.grow (w':={w with drawn:=n}) rfl rfl rfl (Ql _) (λ_ _=>rfl) (DL.of b)).1
def Rel.room(h:Rel E S a w L)(k:Nat):Rel E {S with N:=S.N+k} a w L:=by
 have A:∀b,aI E {S with N:=S.N+k} L b↔aI E S L b:=by
  intro b;constructor
  .rintro(⟨j,p,d,m⟩|hX)
   case inr=>exact .inr hX
   simp only at p d
   by_cases e:j<S.N
   .exact .inl ⟨j,e,d,m⟩
   .rw[h.fresh j O]at d;cases d
  .rintro(⟨j,p,d,m⟩|hX)
   .exact .inl ⟨j,by simp only;omega,d,m⟩
   .exact .inr hX
 have hs:bN w w (aI E S L) (aI E {S with N:=S.N+k} L):=(bN.of λ_ q=>λl=>q ((A _).1 l))
 have B:(S.gh L).le (St.gh {S with N:=S.N+k} L):=⟨by simp[St.gh],λ_ _=> .inl ⟨rfl,rfl⟩⟩
 refine⟨h.defers,h.size,λt=>(h.env t).mono hs B,λid c=> ?_,λi j b hi p g f y u=> ?_,λid c=>h.fresh id (by simp only at c;omega),h.fr,h.sP,λid n v c=>(let⟨h1,F⟩:=h.gy id n v c;⟨QF h1 (qa0 _ _),F⟩),h.an.1.trans (.of λb q l=>q ((A b).1 l)),λid b c d m D=> ?_,λb z=>⟨(h.an.2.2 b z).1,(h.an.2.2 b z).2.1,λid c d=> ?_⟩⟩
 rotate_left 2
 .simp only at c d
  by_cases e:id<S.N
  .exact h.an.2.1 id b e d m D
  .rw[h.fresh id O]at d;cases d
 .simp only at c d
  by_cases e:id<S.N
  .exact(h.an.2.2 b z).2.2 id e d
  .rw[h.fresh id O]at d;cases d
 .by_cases e:id<S.N
  .exact(h.obj id e).mono hs B (λ_ _ _=>rfl)
  .simp only;rw[h.fresh id O];trivial
 .simp only at hi p g f
  have s:i<S.N:=by
   rcases qao i S.N with h1|h1
   .exact h1
   .rw[h.fresh i h1]at g;cases g
  have r:j<S.N:=by
   rcases qao j S.N with h1|h1
   .exact h1
   .rw[h.fresh j h1]at f;cases f
  exact h.apart i j b s r g f y u
def Rel.On(h:Rel E S a w L){b:Nat}(d:E.X b):b<w.heap.size:=by
 by_cases c:E.H0 b
 .let⟨_,⟨o,_,_,q⟩,_⟩:=h.an.2.2 b c
  grind
 .exact QF (E.hX.lt b ⟨d,c⟩) h.fr.size
def Rel.V2(h:Rel E S a w L){b:Nat}(d:E.X b):¬gb b:=by
 by_cases c:E.H0 b
 .exact(h.an.2.2 b c).1
 .exact E.hX.ng b ⟨d,c⟩
end
end
section
open Go.RowKit
inductive aQ where
 |tmp (t:Nat)
 |qP (x:PV)
def aQ.val(S:St):aQ->PV
 | .tmp t=>S.env t
 | .qP x=>x
inductive LK where
 |i
 |s
 |b
inductive PQ where
 |B4
 |ja (lo hi:Bool)
 |PX
 |NP (T:TypeId)
 |Lg (T:TypeId) (z:PV)
 |CG (neg:Bool)
 |neg
 |PC
 |bad
inductive bV where
 |jR (x:aQ)
 |pick (c x y:aQ)
 |box (x:aQ)
 |C0 (x:aQ)
 |alloc (z:List PV)
 |load (n:Option Nat) (p:aQ)
 |store (n:Nat) (p x:aQ)
 |build (z:List PV) (ps:List (Nat×Nat×aQ))
 |GL (m:Bool) (e k:Nat) (z:List (List PV)) (ps:List (Nat×aQ))
 |si (off:Nat) (p:aQ)
 |mq (k:Nat) (x i:aQ)
 |bin (op:BinOp) (x y:aQ)
 |oe (neg:Bool) (x y:aQ)
 |Gy (neg:Bool) (x y:aQ)
 |not (x:aQ)
 |conv (k:IntKind) (x:aQ)
 |len (isStr:Bool) (x:aQ)
 |call (f:FuncId) (xs:List aQ)
 |lp (fv:aQ) (xs:List aQ)
 |bA (fz:Bool) (e k bytes:Nat) (s x:aQ)
 |tZ (x:aQ)
 |CP (i:Nat) (x:aQ)
 |Il (f:FuncId) (caps:List aQ)
 |Im (f:FuncId) (first:List aQ)
 |CQ (neg:Bool) (ks:List LK) (x y:aQ)
 |F1 (e k bytes:Nat) (z:List PV) (l c:aQ)
 |B2 (k:Nat) (x:aQ) (lo hi:Option aQ)
 |rN (mx:Bool) (x y:aQ)
 |rZ (neg:Bool) (x:aQ)
 |clear (k:Nat) (z:List PV) (x:aQ)
 |C4 (e:Nat) (n:Option Nat) (len k:Nat) (x i:aQ)
 |Iu (n:Option Nat) (off:Nat) (x:aQ)
 |lf (q:PQ) (xs:List aQ)
inductive RK where
 |no
 |Ob (e k:Nat)
 |GD (e k:Nat)
 |TM (e k:Nat)
structure Model where
 recv:Bool
 pos:Nat
 fresh:Bool
 m:List PV->List PV->Option (PV×List PV)
 rk:RK
 ro:Bool
 rm:List (List PV)->List PV->Option (PV×List (List PV))
abbrev gW:=FuncId->Option Model
def cutAt{α:Type}(p:Nat)(l:Z α):Z α:=l.take p++l.drop (p+1)
def gL{α:Type}(p:Nat)(x l:Z α):Z α:=l.take p++x++l.drop p
def PV.closed:PV->Bool
 | .int ..| .bool _| .str _| .fF| .cu| .sl _| .ref _| .gm ..| .jc _| .fH ..| .aT _ []=>true
 |_=>false
def PV.kv:PV->Bool
 | .agg cs=>cs.all PV.plain
 |x=>x.plain
def PV.nO:PV->Bool
 | .cg cs=>cs.all PV.kv
 |x=>x.kv
def PV.aZ:PV->Bool
 | .agg cs| .cg cs| .aT _ cs=>cs.all PV.closed
 |x=>x.closed
def PV.oP:PV->Bool
 | .cg cs=>cs.all PV.aZ
 |x=>x.aZ
def fz(H:Nat->dg)(ex:Y Nat):Nat->PV->PV
 |0,x=>match x with| .cu=> .sl []|x=>if x.closed then x else .any
 |_+1,.cu=> .sl []
 |n+1,.own id ab=>if some id=ex\/(H id).ab≠ab then .any else
   match(H id).c with
   | .row _ _ es=> .sl (es.map λe=>e.map (fz H ex n))
   |_=> .any
 |n+1,.ptr id ab off=>if some id=ex\/(H id).ab≠ab then .any else
   match(H id).c with
   | .box cs=> .ref ((cs.map (fz H ex n)).drop off)
   |_=> .any
 |n+1,.agg cs=> .agg (cs.map (fz H ex n))
 |n+1,.cg cs=> .cg (cs.map (fz H ex n))
 |n+1,.aT f cs=> .aT f (cs.map (fz H ex n))
 |_+1,x=>if x.closed then x else .any
def nz:PV->PV
 | .cu=> .sl []
 |x=>x
def PV.JA:PV->Bool
 | .cu=>false
 |_=>true
def xd(es:Z (Z PV)):Z (Z PV):=es.map λe=>e.map nz
def ur(es:Z (Z PV)):Bool:=es.all λu=>u.all PV.closed
def Cf(es:Z (Z PV)):Bool:=es.all λu=>u.all PV.plain
def tL(m:Model)(e k:Nat)(S:St)(c:Z PV):Y (PV×Y (Nat×dg)):=
 match c with
 | .own id ab::rest=>
  if(S.H id).ab=ab then
   match(S.H id).c with
   | .row f d es=>
    if f=e/\d=k/\ur es=true then
     match m.rm es (rest.map (fz S.H (some id) 9))with
     |some (r,b)=>if(r.nO||rest.all PV.aZ&&r.oP)&&ur b&&(Cf b||rest.all PV.aZ)then some (r,some (id,⟨ab,.row e k b⟩))else none
     |none=>none
    else none
   |_=>none
  else none
 |_=>none
def tK(m:Model)(e k:Nat)(S:St)(c:Z PV):Y (PV×Y (Nat×dg)):=
 match c with
 | .own id ab::rest=>
  if(S.H id).ab=ab then
   match(S.H id).c with
   | .row f d es=>
    if f=e/\d=k/\ur es=true then
     match m.rm es (rest.map (fz S.H (some id) 9))with
     |some (_,b)=>if ur b&&(Cf b||rest.all PV.aZ)then some (.own id (ab+1),some (id,⟨ab+1,.row e k b⟩))else none
     |none=>none
    else none
   |_=>none
  else none
 |_=>none
def Ag(m:Model)(e k:Nat)(nid:Nat)(S:St)(b:Z PV):Y (PV×Y (Nat×dg)):=
 match m.rm [] (b.map (fz S.H none 9))with
 |some (_,c)=>if ur c&&(Cf c||b.all PV.aZ)then some (.own nid ((S.H nid).ab+1),some (nid,⟨(S.H nid).ab+1,.row e k c⟩))else none
 |none=>none
def ig(Γ:gW)(nid:Nat)(S:St)(f:FI)(b:Z PV):Y (PV×Y (Nat×dg)):=
 match Γ f with
 |none=>none
 |some m=>
  match m.rk with
  | .Ob e k=>tL m e k S b
  | .GD e k=>tK m e k S b
  | .TM e k=>Ag m e k nid S b
  | .no=>
  if m.fresh then
   match m.m [] (b.map (fz S.H none 9))with
   |some (_,cs)=>if cs.all PV.closed&&(cs.all PV.plain||b.all PV.aZ)then some (.ptr nid ((S.H nid).ab+1) 0,some (nid,⟨(S.H nid).ab+1,.box cs⟩))else none
   |none=>none
  else if m.recv then
   match b[m.pos]? with
   |some (.ptr id ab 0)=>
    if(S.H id).ab=ab then
     match(S.H id).c with
     | .box cs=>
      if cs.all PV.closed then
       match m.m (cs.map nz) ((cutAt m.pos b).map (fz S.H (some id) 9))with
       |some (r,cs')=>if(r.nO||(cutAt m.pos b).all PV.aZ)&&r.oP&&cs'.all PV.closed&&(cs'.all PV.plain||(cutAt m.pos b).all PV.aZ)then some (r,if m.ro&&cs.all PV.JA then none else some (id,⟨ab,.box cs'⟩))else none
       |none=>none
      else none
     |_=>none
    else none
   |_=>none
  else
   match m.m [] (b.map (fz S.H none 9))with
   |some (r,_)=>if r.nO||b.all PV.aZ&&r.oP then some (r,none)else none
   |none=>none
def C2(op:BinOp)(k:IntKind)(a b:Int):Y PV:=
 match op with
 | .add=>some (.int k (k.wrap (a+b)))
 | .sub=>some (.int k (k.wrap (a - b)))
 | .mul=>some (.int k (k.wrap (a*b)))
 | .quo=>if b=0 then none else some (.int k (k.wrap (a.tdiv b)))
 | .rem=>if b=0 then none else some (.int k (a.tmod b))
 | .and=>some (.int k (k.wrap ((BitVec.ofInt k.bits a&&&BitVec.ofInt k.bits b).toNat)))
 | .or=>some (.int k (k.wrap ((BitVec.ofInt k.bits a|||BitVec.ofInt k.bits b).toNat)))
 | .xor=>some (.int k (k.wrap ((BitVec.ofInt k.bits a^^^BitVec.ofInt k.bits b).toNat)))
 | .andNot=>some (.int k (k.wrap ((BitVec.ofInt k.bits a&&& ~~~ BitVec.ofInt k.bits b).toNat)))
 | .eql=>some (.bool (decide (a=b)))
 | .neq=>some (.bool (!decide (a=b)))
 | .lss=>some (.bool (decide (a<b)))
 | .leq=>some (.bool (decide (a<=b)))
 | .gtr=>some (.bool (decide (b<a)))
 | .geq=>some (.bool (decide (b<=a)))
 |_=>none
def mj(a b:C):Bool:=Op.bytesLess a.toList b.toList
def GM(op:BinOp)(a b:C):Y PV:=
 match op with
 | .eql=>some (.bool (decide (a=b)))
 | .neq=>some (.bool (!decide (a=b)))
 | .lss=>some (.bool (mj a b))
 | .leq=>some (.bool (mj a b||decide (a=b)))
 | .gtr=>some (.bool (!(mj a b||decide (a=b))))
 | .geq=>some (.bool (!mj a b))
 |_=>none
def Dw(op:BinOp)(x y:PV):Y PV:=
 match x,y with
 | .int k a,.int c b=>
  match op with
  | .shl=>if b<0 then none else some (.int k (k.wrap (a*2 ^ (min b.toNat k.bits))))
  | .shr=>if b<0 then none else some (.int k (a.fdiv (2 ^ (min b.toNat k.bits))))
  |_=>if k=c then C2 op k a b else none
 | .str a,.str b=>GM op a b
 |_,_=>none
def nr:Y Nat->Z PV->Y PV
 |none,x::_=>some x
 |none,[]=>none
 |some n,cs=>if n<=cs.length then some (.agg (cs.take n))else none
def eF(cs:Z PV)(b:Nat)(xs:Z PV):Z PV:=cs.take b++xs++cs.drop (b+xs.length)
def gM(S:St):PV->Y (Z (Z PV))
 | .cu=>some []
 | .sl es=>some es
 | .own id ab=>if(S.H id).ab=ab then(match(S.H id).c with| .row _ _ es=>some es|_=>none)else none
 | .view id ab k lo n=>if(S.H id).ab=ab then(match(S.H id).c with| .row _ b es=>if b=k then some ((es.drop lo).take n)else none|_=>none)else none
 |_=>none
def mW(S:St)(y:Y aQ)(d:Int):Y Int:=
 match y with
 |none=>some d
 |some l=>match l.val S with| .int _ n=>some n|_=>none
def lJ(S:St):Z PV->Z (Nat×Nat×aQ)->Y (Z PV)
 |cs,[]=>some cs
 |cs,(off,n,x)::rest=>if(x.val S).cells.length=n/\off+n<=cs.length/\(x.val S).cells.all PV.one=true then lJ S (eF cs off (x.val S).cells) rest else none
def ob(S:St)(k:Nat):Z (Z PV)->Z (Nat×aQ)->Y (Z (Z PV))
 |es,[]=>some es
 |es,(i,x)::rest=>if(x.val S).cells.length=k/\i<es.length/\(x.val S).cells.all PV.one=true then ob S k (es.set i (x.val S).cells) rest else none
def ic:Z LK->Z PV->Z PV->Y Bool
 |[],[],[]=>some true
 | .i::ks,.int k a::cs,.int l b::c=>if k=l then(ic ks cs c).map λr=>decide (a=b)&&r else none
 | .s::ks,.str a::cs,.str b::c| .b::ks,.bool a::cs,.bool b::c=>(ic ks cs c).map λr=>decide (a=b)&&r
 |_,_,_=>none
def C3(z:Bool)(id ab e k:Nat)(es:Z (Z PV)):Y (PV×Y (Nat×dg)):=
 match z with
 |false=>some (.own id ab,some (id,⟨ab,.row e k es⟩))
 |true=>if es.all (λu=>u.all PV.closed)then some (.sl es,some (id,⟨ab,.dead⟩))else none
def byteOf(n:Int):Y UInt8:=if 0<=n/\n<256 then some (UInt8.ofNat n.toNat)else none
def bytesOf:Z (Z PV)->Y (Z UInt8)
 |[]=>some []
 |[.int .u8 n]::l=>match byteOf n,bytesOf l with
  |some b,some c=>some (b::c)
  |_,_=>none
 |_=>none
def B4(a b:C):Y C:=if a.size+b.size<=9223372036854775807 then some (a++b)else none
def ja(s:C)(l h:Int):Y C:=if 0<=l/\l<=h/\h<=s.size then some (s.extract l.toNat h.toNat)else none
def je:PQ->Z PV->Y PV
 | .B4,[.str a,.str b]=>(B4 a b).map .str
 | .ja false false,[.str s]=>some (.str s)
 | .ja true false,[.str s,.int _ l]=>(ja s l s.size).map .str
 | .ja false true,[.str s,.int _ h]=>(ja s 0 h).map .str
 | .ja true true,[.str s,.int _ l,.int _ h]=>(ja s l h).map .str
 | .PX,[.sl es]=>(bytesOf es).map λl=> .str ⟨l.toArray⟩
 | .NP T,[x]=>if x.plain&&x.one then some (.fH T x)else none
 | .Lg T z,[.fH c x]=>some (if c=T then .cg [x,.bool true]else .cg [z,.bool false])
 | .Lg _ z,[.jc true]=>some (.cg [z,.bool false])
 | .CG neg,[.fH ..]=>some (.bool neg)
 | .CG neg,[.jc b]=>some (.bool (xor neg b))
 | .neg,[.int k n]=>some (.int k (k.wrap (0 - n)))
 | .PC,[]=>some .any
 |_,_=>none
def exec(Γ:gW)(nid:Nat)(S:St):bV->Y (PV×Y (Nat×dg))
 | .jR x=>some (x.val S,none)
 | .pick c x y=>match c.val S with
  | .bool true=>some (x.val S,none)
  | .bool false=>some (y.val S,none)
  |_=>none
 | .box x=>if(x.val S).cells.all PV.one then some (.ptr nid ((S.H nid).ab+1) 0,some (nid,⟨(S.H nid).ab+1,.box (x.val S).cells⟩))else none
 | .C0 x=>if(x.val S).cells.all PV.one&&(x.val S).cells.all PV.closed then some (.ref (x.val S).cells,none)else none
 | .alloc z=>some (.ptr nid ((S.H nid).ab+1) 0,some (nid,⟨(S.H nid).ab+1,.box z⟩))
 | .load n p=>match p.val S with
  | .ptr id ab off=>if(S.H id).ab=ab then(match(S.H id).c with| .box cs=>(nr n (cs.drop off)).map (·,none)|_=>none)else none
  | .cp id ab k i off=>if(S.H id).ab=ab then(match(S.H id).c with| .row _ d es=>if k=d then(match es[i]? with|some e=>(nr n (e.drop off)).map (·,none)|none=>none)else none|_=>none)else none
  | .ref cs=>(nr n cs).map (·,none)
  |_=>none
 | .store n p x=>if(x.val S).cells.length=n/\(x.val S).cells.all PV.one=true then
   match p.val S with
   | .ptr id ab off=>if(S.H id).ab=ab then(match(S.H id).c with| .box cs=>if off+n<=cs.length then some (.undef,some (id,⟨ab,.box (eF cs off (x.val S).cells)⟩))else none|_=>none)else none
   | .cp id ab k i off=>if(S.H id).ab=ab then(match(S.H id).c with| .row e d es=>if k=d then(match es[i]? with|some c=>if off+n<=c.length then some (.undef,some (id,⟨ab,.row e k (es.set i (eF c off ((x.val S).cells.map nz)))⟩))else none|none=>none)else none|_=>none)else none
   |_=>none
  else none
 | .build z ps=>(lJ S z ps).map λcs=>(.agg cs,none)
 | .GL m e k z ps=>match ob S k z ps with
  |some es=>if m=false/\es.all (λu=>u.all PV.closed)=true then some (.sl (xd es),none)else some (.own nid ((S.H nid).ab+1),some (nid,⟨(S.H nid).ab+1,.row e k (xd es)⟩))
  |none=>none
 | .si off p=>match p.val S with
  | .ptr id ab o=>if(S.H id).ab=ab then(match(S.H id).c with| .box _=>some (.ptr id ab (o+off),none)|_=>none)else none
  | .cp id ab k i o=>if(S.H id).ab=ab then(match(S.H id).c with| .row _ _ es=>if i<es.length then some (.cp id ab k i (o+off),none)else none|_=>none)else none
  | .ref cs=>some (.ref (cs.drop off),none)
  |_=>none
 | .mq k x i=>match i.val S with
  | .int _ n=>match x.val S with
   | .sl es=>if 0<=n/\n<es.length then(match es[n.toNat]? with|some e=>if e.length=k then some (.ref e,none)else none|none=>none)else none
   | .own id ab=>if(S.H id).ab=ab then(match(S.H id).c with| .row _ d es=>if k=d/\0<=n/\n<es.length then some (.cp id ab k n.toNat 0,none)else none|_=>none)else none
   | .view id ab r lo m=>if(S.H id).ab=ab then(match(S.H id).c with| .row _ d es=>if k=d/\r=k/\0<=n/\n<m/\lo+n.toNat<es.length then some (.cp id ab k (lo+n.toNat) 0,none)else none|_=>none)else none
   |_=>none
  |_=>none
 | .bin op x y=>(Dw op (x.val S) (y.val S)).map (·,none)
 | .oe neg x y=>match x.val S,y.val S with
  | .agg [.int k a,.str s],.agg [.int d b,.str t]=>if k=d then some (.bool (xor neg (decide (a=b)&&decide (s=t))),none)else none
  |_,_=>none
 | .CQ neg ks x y=>match x.val S,y.val S with
  | .agg cs,.agg H=>(ic ks cs H).map λb=>(.bool (xor neg b),none)
  |_,_=>none
 | .Gy neg x y=>match x.val S,y.val S with
  | .bool a,.bool b=>some (.bool (xor neg (decide (a=b))),none)
  |_,_=>none
 | .not x=>match x.val S with
  | .bool b=>some (.bool !b,none)
  |_=>none
 | .conv k x=>match x.val S with
  | .int _ n=>some (.int k (k.wrap n),none)
  |_=>none
 | .len true x=>match x.val S with
  | .str s=>some (.int .i64 s.size,none)
  |_=>none
 | .len false x=>(gM S (x.val S)).map λes=>(.int .i64 es.length,none)
 | .call f xs=>ig Γ nid S f (xs.map (·.val S))
 | .lp D xs=>match D.val S with
  | .aT f g=>ig Γ nid S f (xs.map (·.val S)++g)
  | .fe f first=>ig Γ nid S f (first++xs.map (·.val S))
  |_=>none
 | .bA z e k bytes s x=>match gM S (x.val S)with
  |some news=>if news.all (λu=>u.length==k&&u.all PV.one)then(match s.val S with
   | .cu=>if news.length*bytes<=140737488355328/\news.length<=maxLen then C3 z nid ((S.H nid).ab+1) e k news else none
   | .own id ab=>if(S.H id).ab=ab then(match(S.H id).c with
    | .row F d es=>if e=F/\k=d/\(es.length+news.length)*bytes<=140737488355328/\es.length+news.length<=maxLen then C3 z id (ab+1) e k (es++news)else none
    |_=>none)else none
   |_=>none)else none
  |none=>none
 | .tZ x=>match x.val S with
  | .ptr id ab off=>if(S.H id).ab=ab then(match(S.H id).c with| .box _=>some (.ptr id ab off,none)|_=>none)else none
  | .cp id ab k i o=>if(S.H id).ab=ab then(match(S.H id).c with| .row _ _ es=>if i<es.length then some (.cp id ab k i o,none)else none|_=>none)else none
  | .ref cs=>some (.ref cs,none)
  | .aT f cs=>some (.aT f cs,none)
  |_=>none
 | .CP i x=>match x.val S with
  | .cg cs=>(cs[i]?).map (·,none)
  |_=>none
 | .Il f g=>some (.aT f (g.map (·.val S)),none)
 | .Im f first=>some (.fe f (first.map (·.val S)),none)
 | .F1 e k bytes z l c=>match l.val S,c.val S with
  | .int _ n,.int _ m=>if n<=m/\0<=n/\m.toNat*bytes<=140737488355328/\m.toNat<=maxLen then some (.own nid ((S.H nid).ab+1),some (nid,⟨(S.H nid).ab+1,.row e k (replicate n.toNat (z.map nz))⟩))else none
  |_,_=>none
 | .B2 k x lo hi=>match x.val S with
  | .sl es=>if es.all (λe=>e.length==k)then
   match(match lo with|none=>some (0:Int)|some l=>(match l.val S with| .int _ n=>some n|_=>none)),(match hi with|none=>some (es.length:Int)|some h=>(match h.val S with| .int _ n=>some n|_=>none))with
   |some l,some h=>if 0<=l/\l<=h/\h<=es.length then some (.sl ((es.take h.toNat).drop l.toNat),none)else none
   |_,_=>none
   else none
  | .own id ab=>if(S.H id).ab=ab then(match(S.H id).c with
   | .row _ d es=>if k=d then
    match mW S lo 0,mW S hi es.length with
    |some l,some h=>if 0<=l/\l<=h/\h<=es.length then some (.view id ab k l.toNat (h.toNat - l.toNat),none)else none
    |_,_=>none
    else none
   |_=>none)else none
  | .view id ab r A B=>if(S.H id).ab=ab then(match(S.H id).c with
   | .row _ d _=>if k=d/\r=k then
    match mW S lo 0,mW S hi B with
    |some l,some h=>if 0<=l/\l<=h/\h<=B then some (.view id ab k (A+l.toNat) (h.toNat - l.toNat),none)else none
    |_,_=>none
    else none
   |_=>none)else none
  |_=>none
 | .rN mx x y=>match x.val S,y.val S with
  | .int k a,.int d b=>if k=d then some (.int k (if mx then(if b>a then b else a)else(if b<a then b else a)),none)else none
  |_,_=>none
 | .rZ neg x=>match x.val S with
  | .cu=>some (.bool !neg,none)
  |y=>match gM S y with
   |some []=>some (.dI,none)
   |some (_::_)=>some (.bool neg,none)
   |none=>none
 | .C4 _ n len k x i=>match x.val S,i.val S with
  | .agg cs,.int _ j=>if 0<=j/\j<len then(nr n ((cs.drop (j.toNat*k)).map nz)).map (·,none)else none
  |_,_=>none
 | .Iu n off x=>match x.val S with
  | .agg cs=>(nr n (cs.drop off)).map (·,none)
  |_=>none
 | .lf q xs=>(je q (xs.map (·.val S))).map (·,none)
 | .clear k z x=>match x.val S with
  | .view id ab r lo n=>if(S.H id).ab=ab then(match(S.H id).c with
   | .row e d es=>if k=d/\r=k/\z.length=k/\z.all PV.one=true then some (.cg [],some (id,⟨ab,.row e k (es.take lo++replicate n (z.map nz)++es.drop (lo+n))⟩))else none
   |_=>none)else none
  |_=>none
structure SG where
 d:Option Nat
 g:Option (Nat×Bool)
 op:bV
def St.bA(S:St)(d:Y Nat)(x:PV)(wr:Y (Nat×dg)):St:=
 {env:=match d with|some d=>bd S.env d x|none=>S.env,H:=match wr with|some (id,o)=>bd S.H id o|none=>S.H,N:=S.N}
def SG.wanted(S:St)(o:SG):Y Bool:=
 match o.g with
 |none=>some true
 |some (t,want)=>match S.env t with
  | .bool b=>some (b==want)
  | .undef=>some false
  |_=>none
def pz(Γ:gW)(nid:Nat)(S:St)(o:SG):Y St:=
 match o.wanted S with
 |some true=>(exec Γ nid S o.op).map λp=>S.bA o.d p.1 p.2
 |some false=>some (S.bA o.d .undef none)
 |none=>none
def vm(Γ:gW):Nat->Z SG->St->Y St
 |_,[],S=>some S
 |nid,o::rest,S=>match pz Γ nid S o with
  |some S'=>vm Γ (nid+1) rest S'
  |none=>none
def tJ:Va->Y PV
 | .bool b=>some (.bool b)
 | .int k n=>some (.int k n)
 | .string s=>some (.str s)
 | .pointer none=>some .fF
 | .slice none 0 0=>some .cu
 | .nilFunc=>some .any
 | .nilIface=>some (.jc true)
 |_=>none
def aM:Od->Y aQ
 | .tmp t=>some (.tmp t)
 | .const v=>(tJ v).map .qP
 | .func f=>some (.qP (.aT f []))
 | .global _=>none
def nc(P:Pr)(t:TI):Y (Y Nat):=
 match P.underlying t with
 |some (.struct _)|some (.array _ _)=>(P.info? t).map λi=>some i.size
 |some _=>some none
 |none=>none
def oD(P:Pr)(t:TI):Y (Z PV):=
 match P.info? t with
 |some i=>match i.zero with
  |some z=>if z.cells.size=i.size then z.cells.toList.mapM tJ else none
  |none=>none
 |none=>none
def pH(b:Nat->Y (Nat×Nat))(c:Z (Nat×Od)):Y (Z (Nat×Nat×aQ)):=
 c.mapM λp=>do
  let q <-b p.1
  let y <-aM p.2
  some (q.1,q.2,y)
def HP(P:Pr)(b:TI->Y (Z LK)):Z Field->Nat->Y (Z LK)
 |[],_=>some []
 |f::fs,off=>
  if f.name≠ "_"/\f.offset=off then
   match b f.type,P.info? f.type with
   |some ks,some i=>if i.size=ks.length then(HP P b fs (off+ks.length)).map (ks++·)else none
   |_,_=>none
  else none
def tI(P:Pr):Nat->TI->Y (Z LK)
 |0,_=>none
 |d+1,t=>match P.underlying t with
  |some (.int _)=>some [.i]
  |some .string=>some [.s]
  |some .bool=>some [.b]
  |some (.struct fs)=>if P.stoodInHeld t=false then HP P (tI P d) fs.toList 0 else none
  |_=>none
def Pm(hs:Z Nat)(o:Oper):Bool:=match o.dst with|some t=>hs.contains t|none=>false
def xv(P:Pr)(hs:Z Nat)(o:Oper):Y bV:=
 match o.op with
 | .move x| .assign x=>do some (.jR (<-aM x))
 | .pick c a b=>do some (.pick (<-aM c) (<-aM a) (<-aM b))
 | .box _ x=>do
  let y <-aM x
  some (match o.dst with|some t=>(match hs.contains t with|true=> .C0 y|false=> .box y)|none=> .box y)
 | .alloc t=>do some (.alloc (<-oD P t))
 | .load t p=>do some (.load (<-nc P t) (<-aM p))
 | .store t p x=>do some (.store (<-P.info? t).size (<-aM p) (<-aM x))
 | .build t parts=>
  match P.underlying t with
  |some (.struct fields)=>do
   let z <-oD P t
   let d <-fields.toList.mapM (λf=>(P.info? f.type).map λi=>(f.offset,i.size))
   some (.build z (<-pH (λi=>d[i]?) parts.toList))
  |some (.array _ e)=>do
   let z <-oD P t
   let i <-P.info? e
   some (.build z (<-pH (λj=>some (j*i.size,i.size)) parts.toList))
  |_=>none
 | .buildSlice t len parts=>
  match P.underlying t with
  |some (.slice e)=>do
   let i <-P.info? e
   let z <-oD P e
   let ps <-parts.toList.mapM λp=>(aM p.2).map λy=>(p.1,y)
   if len*i.size<=16777216/\0<i.size/\len<=maxLen then some (.GL (match o.dst with|some t=>hs.contains t|none=>true) e i.size (replicate len z) ps)else none
  |_=>none
 | .fieldAddr s x f=>
  match P.underlying s with
  |some (.struct fields)=>do
   let fd <-fields[f]?
   let i <-P.info? fd.type
   if i.size=0 then none else some (.si fd.offset (<-aM x))
  |_=>none
 | .indexAddr t x i=>
  match P.underlying t with
  |some (.slice e)=>do some (.mq (<-P.info? e).size (<-aM x) (<-aM i))
  |_=>none
 | .binOp op t x y _=>
  match P.underlying t with
  |some (.struct fs)=>
   match fs.toList with
   |[f,g]=>
    match P.underlying f.type,P.underlying g.type with
    |some (.int _),some .string=>
     if f.offset=0/\g.offset=1/\f.name≠ "_"/\g.name≠ "_"/\P.stoodInHeld t=false/\P.eqGuardType P.depth t=false then
      match op with
      | .eql=>do some (.oe false (<-aM x) (<-aM y))
      | .neq=>do some (.oe true (<-aM x) (<-aM y))
      |_=>none
     else none
    |_,_=>
     match tI P 64 t with
     |some ks=>
      if P.eqGuardType P.depth t=false then
       match op with
       | .eql=>do some (.CQ false ks (<-aM x) (<-aM y))
       | .neq=>do some (.CQ true ks (<-aM x) (<-aM y))
       |_=>none
      else none
     |none=>none
   |_=>
    match tI P 64 t with
    |some ks=>
     if P.eqGuardType P.depth t=false then
      match op with
      | .eql=>do some (.CQ false ks (<-aM x) (<-aM y))
      | .neq=>do some (.CQ true ks (<-aM x) (<-aM y))
      |_=>none
     else none
    |none=>none
  |some (.slice _)=>
   match y with
   | .const (.slice none 0 0)=>
    match op with
    | .eql=>do some (.rZ false (<-aM x))
    | .neq=>do some (.rZ true (<-aM x))
    |_=>none
   |_=>none
  |some .bool=>
   match op with
   | .eql=>do some (.Gy false (<-aM x) (<-aM y))
   | .neq=>do some (.Gy true (<-aM x) (<-aM y))
   |_=>none
  |some .string=>
   match op with
   | .add=>do some (.lf .B4 [<-aM x,<-aM y])
   |_=>do some (.bin op (<-aM x) (<-aM y))
  |some (.interface _)=>
   match y with
   | .const .nilIface=>
    match op with
    | .eql=>do some (.lf (.CG false) [<-aM x])
    | .neq=>do some (.lf (.CG true) [<-aM x])
    |_=>none
   |_=>none
  |_=>do some (.bin op (<-aM x) (<-aM y))
 | .unOp .not _ x=>do some (.not (<-aM x))
 | .convert src dst x=>
  match P.underlying src,P.underlying dst with
  |some (.int _),some (.int k)=>do some (.conv k (<-aM x))
  |some (.slice e),some .string=>
   match P.underlying e with
   |some (.int .u8)=>do some (.lf .PX [<-aM x])
   |_=>none
  |_,_=>none
 | .index t x i=>
  match P.underlying t with
  |some (.array len e)=>do some (.C4 e (<-nc P e) len (<-P.info? e).size (<-aM x) (<-aM i))
  |_=>none
 | .lookup t m x ok=>some (.lf .bad [])
 | .nilCheck x=>do some (.tZ (<-aM x))
 | .extract x i=>do some (.CP i (<-aM x))
 | .makeFunc (.func f) first n=>if first.size=0 then do some (.Il f (<-n.toList.mapM aM))else if n.size=0 then do some (.Im f (<-first.toList.mapM aM))else none
 | .makeSlice t l c=>
  match P.underlying t with
  |some (.slice e)=>do
   let i <-P.info? e
   if 0<i.size then some (.F1 e i.size i.bytes (<-oD P e) (<-aM l) (<-aM c))else none
  |_=>none
 | .slice t x lo hi none=>
  match P.underlying t with
  |some (.slice e)=>do
   let i <-P.info? e
   some (.B2 i.size (<-aM x) (<-lo.mapM aM) (<-hi.mapM aM))
  |some .string=>
   match lo,hi with
   |none,none=>none
   |some l,none=>do some (.lf (.ja true false) [<-aM x,<-aM l])
   |none,some h=>do some (.lf (.ja false true) [<-aM x,<-aM h])
   |some l,some h=>do some (.lf (.ja true true) [<-aM x,<-aM l,<-aM h])
  |_=>none
 | .call {callee:= .value f,args,..}=>do
  let xs <-args.toList.mapM aM
  match f with
  | .func f=>some (.call f xs)
  |_=>some (.lp (<-aM f) xs)
 | .call {callee:= .builtin b,args,argTypes}=>
  match b,args.toList,argTypes.toList with
  | .len,[x],[t]=>
   match P.underlying t with
   |some .string=>do some (.len true (<-aM x))
   |some (.slice _)=>do some (.len false (<-aM x))
   |_=>none
  | .append,[s,x],[t,q]=>
   match P.underlying t with
   |some (.slice e)=>do
    let i <-P.info? e
    let z <-i.zero
    if t=q/\z.cells.size=i.size/\0<i.size then some (.bA (Pm hs o) e i.size i.bytes (<-aM s) (<-aM x))else none
   |_=>none
  | .clear,[x],[t]=>
   match P.underlying t with
   |some (.slice e)=>do
    let i <-P.info? e
    some (.clear i.size (<-oD P e) (<-aM x))
   |_=>none
  | .min,[x,y],_=>do some (.rN false (<-aM x) (<-aM y))
  | .max,[x,y],_=>do some (.rN true (<-aM x) (<-aM y))
  |_,_,_=>none
 | .field t x i=>
  match P.underlying t with
  |some (.struct fs)=>
   match fs[i]? with
   |some f=>do some (.Iu (<-nc P f.type) f.offset (<-aM x))
   |none=>none
  |_=>none
 | .makeInterface t x=>if P.concrete t=true then do some (.lf (.NP t) [<-aM x])else none
 | .typeAssert x _ t true=>
  match P.underlying t,P.info? t with
  |some (.interface _),_=>none
  |some _,some i=>do some (.lf (.Lg t (<-tJ (<-i.zero))) [<-aM x])
  |_,_=>none
 | .unOp .neg _ x=>do some (.lf .neg [<-aM x])
 | .makeMap _ none=>some (.lf .PC [])
 | .mapUpdate ..| .insert ..=>some (.lf .bad [])
 |_=>none
end
section
open Go.RowKit
def Mc(recv:Bool)(rb:Nat)(X:Nat->Prop)(b:Nat):Prop:=(recv=true/\b=rb)\/X b
def Enters(P:Pr)(f:FI):Prop:=∃fn,P.funcs[f]?=some fn/\fn.body.isSome=true/\(fn.name== "runtime.NumGoroutine")=false
def qb(recv:Bool)(rb:Nat):Z Va:=if recv then[.pointer (some ⟨rb,0,none⟩)]else[]
def LR(recv:Bool)(rb:Nat)(X:Nat->Prop)(w:Wo)(r:PV)(cs':Z PV)(e:Ending)(w':Wo):Prop:=
 ∃(v:Va) (b:Z Va),e= .returned v/\aJ w' (Mc recv rb X) cn r v/\(recv=true->(∃T,w'.heap[rb]?=some (.cells b.toArray T (0,0)))/\aK w' (Mc recv rb X) cn cs' b)/\
  Fr (if recv then some rb else none) w w'
def DE(P:Pr)(f:FI)(pos:Nat)(recv:Bool)(cs c:Z PV)(r:PV)(cs':Z PV):Prop:=
 ∀(w:Wo) (X:Nat->Prop) (_:o3 w X) (rb:Nat) (T:TI) (b vs:Z Va),
  (recv=true->w.heap[rb]?=some (.cells b.toArray T (0,0))/\aK w (Mc recv rb X) cn cs b/\¬gb rb)->aK w (Mc recv rb X) cn c vs->
  Calls P f (gL pos (qb recv rb) vs).toArray w (LR recv rb X w r cs')
abbrev RT(P:Pr)(f:FI):=DE P f 0
def Iq{α:Type}(p:Nat)(l:Z α):gL p [] l=l:=by simp[gL]
def No(P:Pr)(f:FI)(d cs:Z PV):Prop:=
 ∀(w:Wo) (X:Nat->Prop) (_:o3 w X) (vs:Z Va),aK w X cn d vs->
  Calls P f vs.toArray w λe w'=>∃(b:Nat) (c:Z Va) (T:TI),e= .returned (.pointer (some ⟨b,0,none⟩))/\w.heap.size<=b/\w'.heap[b]?=some (.cells c.toArray T (0,0))/\aK w' (λq=>X q\/q=b) cn cs c/\Fr none w w'
def sw(w:Wo)(M:Nat->Prop)(e k:Nat)(v:Va)(es:Z (Z PV)):Prop:=
 ∃(vs:Z Va),w.ownsRow 0 e k v es.length vs/\(∀x∈es,x.length=k)/\aK w M cn es.flatten vs
def Mv(v:Va)(X:Nat->Prop)(b:Nat):Prop:=bp v=some b\/X b
def Nl(P:Pr)(f:FI)(e k:Nat)(es:Z (Z PV))(c:Z PV)(r:PV)(d:Z (Z PV)):Prop:=
 ∀(w:Wo) (X:Nat->Prop) (_:o3 w X) (v:Va) (vs:Z Va),(∀b,bp v=some b->¬X b/\¬gb b)->sw w (Mv v X) e k v es->aK w (Mv v X) cn c vs->
  Calls P f (v::vs).toArray w λg w'=>∃u,g= .returned u/\aJ w' (Mv v X) cn r u/\sw w' (Mv v X) e k v d/\Fr (bp v) w w'
def Fv(P:Pr)(f:FI)(e k:Nat)(es:Z (Z PV))(c:Z PV)(d:Z (Z PV)):Prop:=
 ∀(w:Wo) (X:Nat->Prop) (_:o3 w X) (v:Va) (vs:Z Va),(∀b,bp v=some b->¬X b/\¬gb b)->sw w (Mv v X) e k v es->aK w (Mv v X) cn c vs->
  Calls P f (v::vs).toArray w λg w'=>∃u,g= .returned u/\sw w' (Mv u X) e k u d/\(∀b,bp u=some b->bp v=some b\/w.heap.size<=b)/\Fr (bp v) w w'
def KT(P:Pr)(f:FI)(c:Z PV)(e k:Nat)(d:Z (Z PV)):Prop:=
 ∀(w:Wo) (X:Nat->Prop) (_:o3 w X) (vs:Z Va),aK w X cn c vs->
  Calls P f vs.toArray w λg w'=>∃u,g= .returned u/\sw w' (Mv u X) e k u d/\(∀b,bp u=some b->w.heap.size<=b)/\Fr none w w'
structure Xi (b c:Nat) (w0 w:World):Prop where
 os:w.os=w0.os
 tape:w.tape=w0.tape
 output:w.output=w0.output
 size:w0.heap.size<=w.heap.size
 block:∀k,k<w0.heap.size->k≠b->k≠c->w.heap[k]?=w0.heap[k]?
 drawn:DL w0 w
def Bt(P:Pr)(f:FI)(m:Model):Prop:=
 match m.rk with
 | .no=>True
 | .Ob e k=>∀es b r c,m.rm es b=some (r,c)->Nl P f e k es b r c
 | .GD e k=>∀es b r c,m.rm es b=some (r,c)->Fv P f e k es b c
 | .TM e k=>∀b r c,m.rm [] b=some (r,c)->KT P f b e k c
def Of(P:Pr)(f:FI)(m:Model):Prop:=
 Enters P f/\(m.fresh=false->∀cs b r cs',m.m cs b=some (r,cs')->DE P f m.pos m.recv cs b r cs')/\(m.fresh=true->∀b r cs,m.m [] b=some (r,cs)->No P f b cs)/\Bt P f m/\(m.ro=true->∀cs b r cs',m.m cs b=some (r,cs')->cs'=cs)
def fQ(P:Pr)(Γ:gW):Prop:=∀f m,Γ f=some m->Of P f m
section
variable{P:Pr}{E:En}{S:St}{a:Act}{w:Wo}{L:Nat->Va}
def ue{M:Nat->Prop}{G:Gh}{v:Va}{x:PV}(h:tJ v=some x):aJ w M G x v:=by unfold tJ at h;split at h<;>first|(injection h with h;subst h;first|exact .bool _|exact .int _ _|exact .str _|exact .fF|exact .cu|exact .qm|exact .any _)|cases h
def Rel.dK(h:Rel E S a w L){x:Od}{y:aQ}(b:aM x=some y):aJ w (aI E S L) (S.gh L) (y.val S) (a.eval x):=by
 cases x with
 |tmp t=>simp[aM,Qb]at b;subst b;exact h.env t
 |const v=>simp[aM,Qh]at b;obtain⟨p,d,rfl⟩:=b;exact ue d
 |global g=>simp[aM]at b
 |func f=>simp[aM,Qb]at b;subst b;exact .aT f [] [] rfl (λi x v c _=>by simp at c)
def Rel.cy(h:Rel E S a w L):∀{xs:Z Od} {c:Z aQ},xs.mapM aM=some c->aK w (aI E S L) (S.gh L) (c.map (·.val S)) (xs.map a.eval)
 |[],c,b=>by simp at b;subst b;exact .nil
 |x::xs,c,b=>by simp[QH,Qi,Qd,QO,Qb]at b;obtain⟨y,e,f,d,rfl⟩:=b;exact .cons (h.dK e) (h.cy d)
section
variable{M:Nat->Prop}{G:Gh}{v:Va}
def aJ.iK{b:Bool}(h:aJ w M G (.bool b) v):v= .bool b:=by cases h;rfl
def aJ.dE{k:IntKind}{n:Int}(h:aJ w M G (.int k n) v):v= .int k n:=by cases h;rfl
def aJ.kh{s:C}(h:aJ w M G (.str s) v):v= .string s:=by cases h;rfl
def aJ.ml(h:aJ w M G .cu v):v= .slice none 0 0:=by cases h;rfl
def aJ.JB(h:aJ w M G (.jc true) v):v= .nilIface:=by cases h;rfl
def aJ.OI(h:aJ w M G (.jc false) v):∃T u,v= .iface T u:=by cases h;exact⟨_,_,rfl⟩
def aJ.LA{T:TI}{x:PV}(h:aJ w M G (.fH T x) v):∃u,v= .iface T u/\x.plain=true/\aJ w M cn x u:=by cases h with|fH _ _ u b h=>exact⟨u,rfl,b,h⟩
def aJ.plain{w':Wo}{M M':Nat->Prop}{G G':Gh}{y:PV}{v:Va}(d:y.plain=true)(h:aJ w M G y v):aJ w' M' G' y v:=by
 induction h generalizing G' with
 |fH T x v b _ c=>exact .fH T x v b (c b)
 |_=>first|(simp[PV.plain]at d;done)|constructor
def aJ.Ns(h:aJ w M G .undef v):v=Go.undef:=by cases h;rfl
def aJ.zy{cs:Z PV}(h:aJ w M G (.cg cs) v):∃vs:Z Va,v= .tuple vs.toArray/\aK w M G cs vs:=by cases h with|cg _ vs b h=>exact⟨vs,rfl,b,h⟩
def aJ.lL{cs:Z PV}(h:aJ w M G (.agg cs) v):∃vs:Z Va,v= .agg vs.toArray/\aK w M G cs vs:=by cases h with|agg _ vs b h=>exact⟨vs,rfl,b,h⟩
def aJ.HW{f:FI}{cs:Z PV}(h:aJ w M G (.fe f cs) v):∃vs:Z Va,v= .func (.func f) vs.toArray #[]/\aK w M G cs vs:=by cases h with|fe _ _ vs b h=>exact⟨vs,rfl,b,h⟩
def aJ.oQ{f:FI}{cs:Z PV}(h:aJ w M G (.aT f cs) v):∃vs:Z Va,v= .func (.func f) #[] vs.toArray/\aK w M G cs vs:=by cases h with|aT _ _ vs b h=>exact⟨vs,rfl,b,h⟩
def aJ.Hu{cs:Z PV}(h:aJ w M G (.ref cs) v):∃(ad:Addr) (vs:Z Va),v= .pointer (some ad)/\aK w M cn cs vs/\∀(i:Nat) (u:Va),vs[i]?=some u->w.cell? (ad.add i)=some u/\¬M ad.block:=by cases h with|ref _ ad vs b c h=>exact⟨ad,vs,rfl,⟨b,h⟩,c⟩
def aJ.lC{id ab c:Nat}(h:aJ w M G (.ptr id ab c) v)(d:G.V id=ab):id<G.N/\v= .pointer ((bp (G.L id)).map λb=>⟨b,c,none⟩):=by cases h with|ptr _ _ _ ad e f h=>exact⟨e,by rw[h d.symm]⟩
def aJ.Ff{id ab k i c:Nat}(h:aJ w M G (.cp id ab k i c) v)(d:G.V id=ab):id<G.N/\v= .pointer ((bp (G.L id)).map λb=>⟨b,i*k+c,none⟩):=by cases h with|cp _ _ _ _ _ ad e f h=>exact⟨e,by rw[h d.symm]⟩
def aJ.te{id ab k lo n:Nat}(h:aJ w M G (.view id ab k lo n) v)(b:G.V id=ab):id<G.N/\∃a c,v= .slice a n c/\KN (G.L id) k lo n a c:=by cases h with|view _ _ _ _ _ ad c d e h=>exact⟨d,ad,c,rfl,h b.symm⟩
def aJ.iy{id ab:Nat}(h:aJ w M G (.own id ab) v)(b:G.V id=ab):id<G.N/\v=G.L id:=by cases h with|own _ _ ad n c d e h=>exact⟨d,h b.symm⟩
def aJ.wZ{es:Z (Z PV)}(h:aJ w M G (.sl es) v):(v= .slice none 0 0/\es=[])\/∃(ad:Addr) (c k:Nat) (vs:Z Va),v= .slice (some ad) es.length c/\(∀e∈es,e.length=k)/\aK w M cn es.flatten vs/\
  (∀(i:Nat) (u:Va),vs[i]?=some u->w.cell? (ad.add i)=some u/\¬M ad.block)/\es.length<=c/\c<=maxLen:=by
 cases h with
 |sl _ ad c k vs hk d f h b hm=>exact .inr ⟨ad,c,k,vs,rfl,hk,⟨d,h⟩,f,b,hm⟩
 |slnil=>exact .inl ⟨rfl,rfl⟩
end
def St.c7(S:St)(wr:Y (Nat×dg)):St:={S with H:=match wr with|some (id,o)=>bd S.H id o|none=>S.H}
def Good(P:Pr)(E:En)(S:St)(a:Act)(w:Wo)(o:Oper)(x:PV)(wr:Y (Nat×dg)):Prop:=
 ∃b w' c v,(execOp a.eval o).run P w= .ok b w'/\(b= .value v\/(b= .skip/\v=undef))/\aJ w' (aI E (S.c7 wr) c) ((S.c7 wr).gh c) x v/\Rel E (S.c7 wr) a w' c
def Good.pure{o:Oper}{x:PV}{v:Va}(h:Rel E S a w L)(c:(execOp a.eval o).run P w= .ok (.value v) w)(b:aJ w (aI E S L) (S.gh L) x v):Good P E S a w o x none:=
 ⟨_,w,L,v,c,.inl rfl,b,h⟩
def Rel.Mh(h:Rel E S a w L){d:Y Nat}{x:PV}{v:Va}(c:∀t,d=some t->E.can t)(b:aJ w (aI E S L) (S.gh L) x v):Rel E (S.bA d x none) (a.put d v) w L:=by
 cases d with
 |none=>exact h
 |some t=>exact h.put (c t rfl) b
def DC(o:Oper):Prop:=∀c,o.op≠ .defer c
def Good.wp{o:Oper}{x:PV}{wr:Y (Nat×dg)}(h:Good P E S a w o x wr)(b:DC o)(g:∀t,o.dst=some t->E.can t){K:Act->Wo->Prop}{Q:Exit->Act->Wo->Prop}
  (i:∀a' w' c,Rel E (S.bA o.dst x wr) a' w' c->K a' w'):o.wpIn (WF E.rd) 0 P a w K Q:=by
 let⟨k,w',c,v,e,f,d,j⟩:=h
 have:=i _ _ _ (show Rel E (S.bA o.dst x wr) (a.put o.dst v) w' c from j.Mh g d)
 unfold Oper.wpIn;rw[qaQ _ _ _ b,e];rcases f with rfl|⟨rfl,rfl⟩<;>exact⟨λ_ _=>trivial,this⟩
def K9{t:TI}{ad:Addr}{v:Va}(b:nc P t=some none)(h:w.cell? ad=some v):(loadVar t ad).run P w= .ok v w:=by
 unfold nc at b;split at b
 .simp at b
 .simp at b
 .rename_i d _ e c
  have:(isAgg t).run P w= .ok false w:=by unfold isAgg;rw[Qs,Qo c w];cases d<;>simp_all
  simp[loadVar,Qs,this,QK];simp[load,Sem.run,h]
 .cases b
def La{t:TI}{ad:Addr}{n:Nat}{vs:Z Va}(b:nc P t=some (some n))(e:vs.length=n)(h:∀(i:Nat) (v:Va),vs[i]?=some v->w.cell? (ad.add i)=some v):
  (loadVar t ad).run P w= .ok (.agg vs.toArray) w:=by
 have hi:∃i,P.info? t=some i/\i.size=n:=by
  unfold nc at b;split at b
  .simpa using b
  .simpa using b
  .simp at b
  .cases b
 let⟨i,hi,hs⟩:=hi
 have:(isAgg t).run P w= .ok true w:=by
  unfold nc at b;unfold isAgg;split at b
  .rename_i d;rw[Qs,Qo d w];simp
  .rename_i d;rw[Qs,Qo d w];simp
  .simp at b
  .cases b
 have c:=run_loadCells_list (P:=P) w ad vs h;rw[e]at c;simp[loadVar,Qs,this,QK,sizeOf,typeInfo];simp[program,Sem.run,hi,hs,c]
def Dl{M:Nat->Prop}{G:Gh}{t:TI}{n:Y Nat}{ad:Addr}{cs:Z PV}{vs:Z Va}{x:PV}(d:nc P t=some n)(c:aK w M G cs vs)
  (e:∀(i:Nat) (v:Va),vs[i]?=some v->w.cell? (ad.add i)=some v) (b:nr n cs=some x):∃v,(loadVar t ad).run P w= .ok v w/\aJ w M G x v:=by
 cases n with
 |none=>
  cases cs with
  |nil=>simp[nr]at b
  |cons y f=>simp[nr,Qb]at b;subst b;obtain⟨v,us,rfl,h1,_⟩:=c.cons_inv;exact⟨v,K9 d (by simpa[Addr.add]using e 0 v t_),h1⟩
 |some n=>
  simp only[nr]at b;split at b
  .injection b with b
   subst b;rename_i h;refine⟨.agg (vs.take n).toArray,La d (by simp[c.1];omega) (λi v g=> ?_),?_⟩
   .grind
   .have:=c.take n;exact .agg _ _ this.1 this.2
  .cases b
def Rel.mO(h:Rel E S a w L){id:Nat}{cs:Z PV}(d:id<S.N)(e:(S.H id).c= .box cs):
  ∃(b:Nat) (c:Array Va) (T:TI),L id= .pointer (some ⟨b,0,none⟩)/\w.heap[b]?=some (.cells c T (0,0))/\aK w (aI E S L) (S.gh L) cs c.toList/\(E.rb=some b\/E.w0.heap.size<=b):=by
 have:=h.obj id d;rw[e]at this
 let⟨b,c,T,h1,i,g,f⟩:=this
 exact⟨b,c,T,h1,i,f,g⟩
theorem kH{b:Nat}{c:Array Va}{T:TI}(h:w.heap[b]?=some (.cells c T (0,0))){i:Nat}{v:Va}(d:c.toList[i]?=some v):w.cell? ⟨b,i,none⟩=some v:=by simp[World.cell?,h];simpa using d
def Rel.gd(h:Rel E S a w L){id:Nat}{e k:Nat}{es:Z (Z PV)}(b:id<S.N)(c:(S.H id).c= .row e k es):
  ∃(vs:Z Va),w.ownsRow (dQ E (L id)) e k (L id) es.length vs/\(∀x∈es,x.length=k)/\aK w (aI E S L) (S.gh L) es.flatten vs:=by
 have:=h.obj id b;rw[c]at this;exact this
theorem sf{α:Type}:∀(es:Z (Z α)) (k i:Nat) (e:Z α),(∀x∈es,x.length=k)->es[i]?=some e->∀j,j<k->es.flatten[i*k+j]?=e[j]?
 |[],_,_,_,_,h,_,_=>by simp at h
 |x::xs,k,i,e,hk,h,j,c=>by
  have d:x.length=k:=hk x t_
  cases i with
  |zero=>simp at h;subst h;simp[List.flatten_cons,Nat.zero_mul,qai];rw[List.getElem?_append_left O]
  |succ i=>
   simp[List.getElem?_cons_succ]at h;have:=sf xs k i e (λy b=>hk y (by simp[b])) h j c
   simp[List.flatten_cons];have f:(i+1)*k=i*k+k:=by rw[QJ];omega
   rw[List.getElem?_append_right O,<-this];congr 1;omega
theorem hU{α:Type}(es:Z (Z α))(k:Nat)(c:∀x∈es,x.length=k):es.flatten.length=es.length*k:=by
 induction es with
 |nil=>simp
 |cons x xs b=>grind
end
end
section
open Go.RowKit
section
variable{P:Pr}{E:En}{S:St}{a:Act}{w:Wo}{L:Nat->Va}{o:Oper}{x:PV}{wr:Y (Nat×dg)}{Γ:gW}{nid:Nat}
theorem bl{p q:PV×Y (Nat×dg)}(h:some p=some q):p.1=q.1/\p.2=q.2:=by cases h;exact⟨rfl,rfl⟩
def PJ(h:Rel E S a w L){y:Od}{c:aQ}(b:o.op= .move y\/o.op= .assign y)(d:aM y=some c):Good P E S a w o (c.val S) none:=by refine Good.pure h ?_ (h.dK d);rcases b with b|b<;>simp[execOp,b]
def TA(h:Rel E S a w L){c y z:Od}{j g f:aQ}(i:o.op= .pick c y z)(m:aM c=some j)(l:aM y=some g)(k:aM z=some f)
  (b:exec Γ nid S (.pick j g f)=some (x,wr)):Good P E S a w o x wr:=by
 have rc:=h.dK m;simp[exec]at b;split at b
 .rename_i e;obtain⟨rfl,rfl⟩:=bl b;rw[e]at rc;have d:=rc.iK;exact Good.pure (v:=a.eval y) h (by simp[execOp,i,asBool,d]) (h.dK l)
 .rename_i e;obtain⟨rfl,rfl⟩:=bl b;rw[e]at rc;have d:=rc.iK;exact Good.pure (v:=a.eval z) h (by simp[execOp,i,asBool,d]) (h.dK k)
 .cases b
def Vo(h:Rel E S a w L){y:Od}{d:aQ}{t:TI}(i:o.op= .unOp .not t y)(f:aM y=some d)(c:exec Γ nid S (.not d)=some (x,wr)):Good P E S a w o x wr:=by
 have r:=h.dK f;simp[exec]at c;split at c
 .rename_i b e;obtain⟨rfl,rfl⟩:=bl c;rw[e]at r;have g:=r.iK;exact Good.pure (v:= .bool !b) h (by simp[execOp,i,Op.unary,g]) (.bool _)
 .cases c
def TE(h:Rel E S a w L){y:Od}{c:aQ}{s t:TI}{k d:IntKind}(j:o.op= .convert s t y)(hs:P.underlying s=some (.int d))(i:P.underlying t=some (.int k))(f:aM y=some c)
  (b:exec Γ nid S (.conv k c)=some (x,wr)):Good P E S a w o x wr:=by
 have r:=h.dK f;simp[exec]at b;split at b
 .rename_i l n e;obtain⟨rfl,rfl⟩:=bl b;rw[e]at r;have g:=r.dE;exact Good.pure (v:= .int k (k.wrap n)) h (by simp[execOp,j,convert,Qo hs,Qo i,Conv.intToInt,g]) (.int _ _)
 .cases b
def TD(h:Rel E S a w L){y:Od}{c:aQ}{i:Nat}(l:o.op= .extract y i)(f:aM y=some c)(b:exec Γ nid S (.CP i c)=some (x,wr)):Good P E S a w o x wr:=by
 have r:=h.dK f;simp[exec]at b;split at b
 .rename_i cs e;simp only[Qh]at b;obtain⟨z,d,b⟩:=b;injection b with h1 m
  subst h1 m;rw[e]at r
  let⟨vs,j,k⟩:=r.zy
  let⟨u,hu,g⟩:=k.get d
  exact Good.pure (v:=u) h (by simp[execOp,l,Instr.extract,j,hu]) g
 .cases b
def Vt(h:Rel E S a w L){f:FI}{first b:Array Od}{cs:Z aQ}(d:o.op= .makeFunc (.func f) first b)(j:first.size=0)(g:b.toList.mapM aM=some cs)
  (c:exec Γ nid S (.Il f cs)=some (x,wr)):Good P E S a w o x wr:=by
 simp only[exec]at c;obtain⟨rfl,rfl⟩:=bl c;have r:=h.cy g;have i:first=#[]:=qa1 j
 subst i;refine Good.pure (v:= .func (.func f) #[] (b.toList.map a.eval).toArray) h ?_ (.aT f _ _ r.1 r.2);have e:b.map a.eval=(b.toList.map a.eval).toArray:=by rw[<-qaG,QZ]
 simp[execOp,d,Instr.makeFunc,e]
def Vu(h:Rel E S a w L){f:FI}{first b:Array Od}{cs:Z aQ}(d:o.op= .makeFunc (.func f) first b)(j:b.size=0)(g:first.toList.mapM aM=some cs)
  (c:exec Γ nid S (.Im f cs)=some (x,wr)):Good P E S a w o x wr:=by
 simp only[exec]at c;obtain⟨rfl,rfl⟩:=bl c;have r:=h.cy g;have i:b=#[]:=qa1 j;subst i;refine Good.pure (v:= .func (.func f) (first.toList.map a.eval).toArray #[]) h ?_ (.fe f _ _ r.1 r.2)
 have e:first.map a.eval=(first.toList.map a.eval).toArray:=by rw[<-qaG,QZ]
 simp[execOp,d,Instr.makeFunc,e]
def toList_eq_iff(a b:C):(a.toList==b.toList)=decide (a=b):=by
 have d:∀c:C,c.toList=c.data.toList:=λc=>Lib.toList_data c
 rw[d,d,Bool.eq_iff_iff];simp only[beq_iff_eq,QB];constructor
 .intro h;have:a.data=b.data:=Array.toList_inj.1 h;cases a;cases b;simp_all
 .rintro rfl;rfl
def LY{M:Nat->Prop}{G:Gh}{op:BinOp}{t:TI}{k:IntKind}{p q:Int}{r:PV}(b:C2 op k p q=some r)(d:op≠ .shl)(c:op≠ .shr):
  ∃v,(binOp op t (.int k p) (.int k q)).run P w= .ok v w/\aJ w M G r v:=by
 cases op<;>simp only[C2]at b
 case shl=>exact absurd rfl d
 case shr=>exact absurd rfl c
 case quo=>
  split at b
  .cases b
  .rename_i e;cases b;exact⟨.int k (k.wrap (p.tdiv q)),by simp[binOp,Op.intDiv,e],.int _ _⟩
 case rem=>
  split at b
  .cases b
  .rename_i e;cases b;exact⟨.int k (p.tmod q),by simp[binOp,Op.intDiv,e],.int _ _⟩
 case andNot=>cases b;exact⟨.int k (k.wrap ((BitVec.ofInt k.bits p&&& ~~~ BitVec.ofInt k.bits q).toNat)),by simp[binOp,ne_eq,qaH,QE,Op.intBits,QP],.int _ _⟩
 case and=>injection b with b;subst b;exact⟨_,by simp only[binOp,ne_eq,qaH,QE,Op.intBits];rfl,.int _ _⟩
 case or=>injection b with b;subst b;exact⟨_,by simp only[binOp,ne_eq,qaH,QE,Op.intBits];rfl,.int _ _⟩
 case xor=>injection b with b;subst b;exact⟨_,by simp only[binOp,ne_eq,qaH,QE,Op.intBits];rfl,.int _ _⟩
 all_goals (injection b with b;subst b)
 all_goals exact⟨_,by simp[binOp,ne_eq,qaH,QE,Op.intArith,Op.intCmp];rfl,by first|exact .int _ _|exact .bool _⟩
def PN(h:Rel E S a w L){y z:Od}{D B:aQ}{op:BinOp}{t t2:TI}(g:o.op= .binOp op t y z t2)(I:aM y=some D)(H:aM z=some B)
  (l:exec Γ nid S (.bin op D B)=some (x,wr)):Good P E S a w o x wr:=by
 have j:=h.dK I;have i:=h.dK H;simp only[exec,Qh]at l;obtain⟨r,b,l⟩:=l;injection l with h1 N
 subst h1 N;unfold Dw at b;split at b
 .rename_i k p F q A u;rw[A]at j;rw[u]at i;have c:=j.dE;have d:=i.dE;have e:∀op,(eqGuard op t y z (.int k p) (.int F q)).run P w= .ok () w:=by intro op;cases op<;>simp[eqGuard]
  split at b
  .split at b
   .cases b
   .rename_i s;injection b with b
    subst b;exact Good.pure (v:=_) h (by simp[execOp,g,c,d,e,binOp,Op.shift,s]) (.int _ _)
  .split at b
   .cases b
   .rename_i s;injection b with b
    subst b;exact Good.pure (v:=_) h (by simp[execOp,g,c,d,e,binOp,Op.shift,s]) (.int _ _)
  .rename_i n m;split at b
   .rename_i K;subst K
    let⟨v,f,J⟩:=LY (P:=P) (w:=w) (t:=t) (M:=aI E S L) (G:=S.gh L) b n m
    exact Good.pure (v:=v) h (by simp[execOp,g,c,d,e,f]) J
   .cases b
 .rename_i p q A u;rw[A]at j;rw[u]at i;have c:=j.kh;have d:=i.kh;have e:∀op,(eqGuard op t y z (.string p) (.string q)).run P w= .ok () w:=by intro op;cases op<;>simp[eqGuard]
  cases op<;>simp[GM]at b<;>
   first
   |(cases b;exact Good.pure (v:=_) h (by first|(simp[execOp,g,c,d,Qs,e,binOp,Op.stringOp,toList_eq_iff,QP,QK];done)|(simp[execOp,g,c,d,Qs,e,binOp,Op.stringOp,toList_eq_iff,QP,QK];rfl)) (.bool _))
   |cases b
 .cases b
end
end
section
open Go.RowKit
section
variable{P:Pr}{E:En}{S:St}{a:Act}{w:Wo}{L:Nat->Va}{o:Oper}{x:PV}{wr:Y (Nat×dg)}{Γ:gW}{nid:Nat}
def run_load{t:TI}{y:Od}{ad:Addr}{v:Va}(d:o.op= .load t y)(b:a.eval y= .pointer (some ad))(c:(loadVar t ad).run P w= .ok v w):(execOp a.eval o).run P w= .ok (.value v) w:=by simp[execOp,d,b,Instr.loadAt,Instr.sureAddr,c]
theorem add_mid(b o j:Nat):(⟨b,o,none⟩:Addr).add j=⟨b,o+j,none⟩:=Addr.add_mid b o j
theorem ed{α:Type}{l:Z α}{n i:Nat}{v:α}(h:(l.drop n)[i]?=some v):l[n+i]?=some v:=by rwa [List.getElem?_drop]at h
def TB(h:Rel E S a w L){y:Od}{y':aQ}{t:TI}{n:Y Nat}(Q:o.op= .load t y)(N:nc P t=some n)(hy:aM y=some y')(c:exec Γ nid S (.load n y')=some (x,wr)):Good P E S a w o x wr:=by
 have r:=h.dK hy;simp[exec]at c;split at c
 .rename_i id ab l e;rw[e]at r;split at c
  .rename_i m;split at c
   .rename_i cs J;simp only[Qh]at c;obtain⟨z,A,c⟩:=c;injection c with f s
    subst f s
    let⟨W,p⟩:=r.lC (show(S.gh L).V id=ab from m)
    let⟨b,X,T,K,U,H,_⟩:=h.mO W J
    rw[show(S.gh L).L id=L id from rfl,K]at p
    simp[bp,Qn]at p
    let⟨v,d,B⟩:=Dl (P:=P) (ad:=⟨b,l,none⟩) N (H.drop l) (λi u D=>by rw[add_mid];exact kH U (ed D)) A
    exact Good.pure h (run_load Q p d) B
   .cases c
  .cases c
 .rename_i id ab k i l e;rw[e]at r;split at c
  .rename_i m;split at c
   .rename_i e0 k' es J;split at c
    .rename_i R;subst R;split at c
     .rename_i el V;simp only[Qh]at c;obtain⟨z,A,c⟩:=c;injection c with f s
      subst f s
      let⟨W,p⟩:=r.Ff (show(S.gh L).V id=ab from m)
      let⟨vs,I,R,H⟩:=h.gd W J
      rw[show(S.gh L).L id=L id from rfl]at p
      have hlen:el.length=k:=R el (QD V)
      have F:aK w (aI E S L) (S.gh L) el ((vs.drop (i*k)).take k):=by
       have f:=(H.drop (i*k)).take k
       have s:(es.flatten.drop (i*k)).take k=el:=by
        apply List.ext_getElem?
        grind [sf]
       rw[s]at f;exact f
      rcases I.2 with⟨K,h0⟩|⟨g,cap,X,K,hb1,U,_,_,_,q⟩
      .grind
      .rw[K]at p;simp[bp,Qn]at p
       let⟨v,d,B⟩:=Dl (P:=P) (ad:=⟨g,i*k+l,none⟩) N (F.drop l) (λj u D=>by
        rw[add_mid];refine kH U ?_;have f:=ed D;rw[qat]at f;split at f
        .rw[List.getElem?_drop,<-q,qat]at f;split at f
         .rw[<-f];congr 1;omega
         .cases f
        .cases f) A
       exact Good.pure h (run_load Q p d) B
     .cases c
    .cases c
   .cases c
  .cases c
 .rename_i cs e;rw[e]at r;simp only[Qh]at c;obtain⟨z,A,c⟩:=c;injection c with f s
  subst f s
  let⟨ad,vs,p,H,J⟩:=r.Hu
  let⟨v,d,B⟩:=Dl (P:=P) (ad:=ad) N H (λi u D=>(J i u D).1) A
  exact Good.pure h (run_load Q p d) (B.mono (bN.of λ_ hm=>hm) (cn.le _))
 .cases c
theorem add_add(ad:Addr)(i j:Nat):(ad.add i).add j=ad.add (i+j):=by
 unfold Addr.add
 grind
def Oy{M:Nat->Prop}{G:Gh}{cs:Z PV}{ad:Addr}{vs:Z Va}(d:aK w M cn cs vs)(e:∀(i:Nat) (u:Va),vs[i]?=some u->w.cell? (ad.add i)=some u/\¬M ad.block)(n:Nat):
  aJ w M G (.ref (cs.drop n)) (.pointer (some (ad.add n))):=by
 have b:=d.drop n;exact .ref _ _ _ b.1 (λi u c=>by rw[add_add,C1];exact e _ u (ed c)) b.2
def Hs{fd:Field}{i:TypeInfo}(hi:P.info? fd.type=some i)(b:i.size≠0)(ad:Addr):(fieldPlace ad fd).run P w= .ok (ad.add fd.offset) w:=by simp[fieldPlace,sizeOf,typeInfo,hi,b]
def B9{s:TI}{y:Od}{f:Nat}{b:Array Field}{fd:Field}{i:TypeInfo}{ad:Addr}(d:o.op= .fieldAddr s y f)(hs:P.underlying s=some (.struct b))(e:b[f]?=some fd)
  (hi:P.info? fd.type=some i) (g:i.size≠0) (c:a.eval y= .pointer (some ad)):(execOp a.eval o).run P w= .ok (.value (.pointer (some (ad.add fd.offset)))) w:=by
 simp[execOp,d,Instr.fieldAt,Qo hs,e,c,Instr.sureAddr,Hs hi g]
def aJ.NF{M:Nat->Prop}{G:Gh}{id ab c:Nat}{ad:Addr}(n:Nat)(h:aJ w M G (.ptr id ab c) (.pointer (some ad))):aJ w M G (.ptr id ab (c+n)) (.pointer (some (ad.add n))):=by
 cases h with
 |ptr _ _ _ _ g f h=>
  refine .ptr _ _ _ _ g f (λe=> ?_)
  have:=h e
  cases d:bp (G.L id)with
  |none=>rw[d]at this;cases this
  |some b=>grind [add_mid]
def aJ.MB{M:Nat->Prop}{G:Gh}{id ab k i c:Nat}{ad:Addr}(n:Nat)(h:aJ w M G (.cp id ab k i c) (.pointer (some ad))):aJ w M G (.cp id ab k i (c+n)) (.pointer (some (ad.add n))):=by
 cases h with
 |cp _ _ _ _ _ _ g f h=>
  refine .cp _ _ _ _ _ _ g f (λe=> ?_)
  have:=h e
  cases d:bp (G.L id)with
  |none=>rw[d]at this;cases this
  |some b=>grind [add_mid]
def Rel.qj(h:Rel E S a w L){id ab c:Nat}{v:Va}{cs:Z PV}(r:aJ w (aI E S L) (S.gh L) (.ptr id ab c) v)(d:(S.H id).ab=ab)(g:(S.H id).c= .box cs):
  ∃b,v= .pointer (some ⟨b,c,none⟩)/\L id= .pointer (some ⟨b,0,none⟩):=by
 let⟨i,e⟩:=r.lC (show(S.gh L).V id=ab from d)
 let⟨b,j,T,f,l,k,_⟩:=h.mO i g
 rw[show(S.gh L).L id=L id from rfl,f]at e
 exact⟨b,e,f⟩
def Rel.Ix(h:Rel E S a w L){id ab k i c:Nat}{v:Va}{s l:Nat}{es:Z (Z PV)}(r:aJ w (aI E S L) (S.gh L) (.cp id ab k i c) v)(d:(S.H id).ab=ab)(m:(S.H id).c= .row s l es)(hi:i<es.length):
  ∃b n cap,v= .pointer (some ⟨b,i*k+c,none⟩)/\L id= .slice (some ⟨b,0,none⟩) n cap:=by
 let⟨q,j⟩:=r.Ff (show(S.gh L).V id=ab from d)
 let⟨vs,e,hk,u⟩:=h.gd q m
 rcases e.2 with⟨f,z⟩|⟨g,cap,t,f,p,y,_⟩
 .omega
 .rw[show(S.gh L).L id=L id from rfl,f]at j
  exact⟨g,_,cap,j,f⟩
def Sk(h:Rel E S a w L){s:TI}{y:Od}{z:aQ}{f:Nat}{d:Array Field}{fd:Field}{i:TypeInfo}(q:o.op= .fieldAddr s y f)(hs:P.underlying s=some (.struct d))(t:d[f]?=some fd)
  (hi:P.info? fd.type=some i) (u:i.size≠0) (A:aM y=some z) (c:exec Γ nid S (.si fd.offset z)=some (x,wr)):Good P E S a w o x wr:=by
 have r:=h.dK A;simp[exec]at c;split at c
 .rename_i id ab p e;rw[e]at r;split at c
  .rename_i g;split at c
   .rename_i cs m;obtain⟨rfl,rfl⟩:=bl c
    let⟨b,l,_⟩:=h.qj r g m
    rw[l]at r;exact Good.pure h (B9 q hs t hi u l) (r.NF _)
   .cases c
  .cases c
 .rename_i id ab k j p e;rw[e]at r;split at c
  .rename_i g;split at c
   .rename_i m;split at c
    .rename_i D;obtain⟨rfl,rfl⟩:=bl c
     let⟨b,n,cap,l,_⟩:=h.Ix r g m D
     rw[l]at r;exact Good.pure h (B9 q hs t hi u l) (r.MB _)
    .cases c
   .cases c
  .cases c
 .rename_i cs e;rw[e]at r;obtain⟨rfl,rfl⟩:=bl c
  let⟨ad,vs,l,B,m⟩:=r.Hu
  exact Good.pure h (B9 q hs t hi u l) (Oy B m _)
 .cases c
def Sh(h:Rel E S a w L){y:Od}{p:aQ}(i:o.op= .nilCheck y)(q:aM y=some p)(c:exec Γ nid S (.tZ p)=some (x,wr)):Good P E S a w o x wr:=by
 have r:=h.dK q;simp[exec]at c;split at c
 .rename_i id ab m e;rw[e]at r;split at c
  .rename_i d;split at c
   .rename_i cs l;obtain⟨rfl,rfl⟩:=bl c
    let⟨b,g,_⟩:=h.qj r d l
    exact Good.pure (v:=a.eval y) h (by simp[execOp,i,g]) r
   .cases c
  .cases c
 .rename_i id ab k j m e;rw[e]at r;split at c
  .rename_i d;split at c
   .rename_i l;split at c
    .rename_i t;obtain⟨rfl,rfl⟩:=bl c
     let⟨b,n,cap,g,_⟩:=h.Ix r d l t
     exact Good.pure (v:=a.eval y) h (by simp[execOp,i,g]) r
    .cases c
   .cases c
  .cases c
 .rename_i cs e;rw[e]at r;obtain⟨rfl,rfl⟩:=bl c
  let⟨ad,vs,g,s,l⟩:=r.Hu
  exact Good.pure (v:=a.eval y) h (by simp[execOp,i,g]) r
 .rename_i f cs e;rw[e]at r;obtain⟨rfl,rfl⟩:=bl c
  let⟨vs,g,s⟩:=r.oQ
  exact Good.pure (v:=a.eval y) h (by simp[execOp,i,g]) r
 .cases c
def Rel.Df(h:Rel E S a w L){id k lo n:Nat}{ad:Y Addr}{c:Nat}{l e:Nat}{es:Z (Z PV)}(i:id<S.N)(f:(S.H id).c= .row l e es)(d:KN (L id) k lo n ad c):lo+n<=es.length:=by
 let⟨a0,m0,c0,q,h1,_⟩:=d
 let⟨vs,b,hk,p⟩:=h.gd i f
 rcases b.2 with⟨j,r⟩|⟨g,cap,m,j,_⟩
 .grind
 .grind
def B8{t e:TI}{y z:Od}{ad:Addr}{n c:Nat}{i:TypeInfo}{k:IntKind}{j:Int}(g:o.op= .indexAddr t y z)(f:P.underlying t=some (.slice e))(hi:P.info? e=some i)
  (d:a.eval y= .slice (some ad) n c) (b:a.eval z= .int k j) (l:0<=j) (h:j<n):(execOp a.eval o).run P w= .ok (.value (.pointer (some (ad.add (j.toNat*i.size))))) w:=by
 simp[execOp,g,Instr.indexAt,Qo f,d,b,asIntOf,sizeOf,typeInfo,hi,l,h]
def Sj(h:Rel E S a w L){t e:TI}{y z:Od}{y' z':aQ}{i:TypeInfo}(R:o.op= .indexAddr t y z)(N:P.underlying t=some (.slice e))(hi:P.info? e=some i)(hy:aM y=some y')(hz:aM z=some z')
  (b:exec Γ nid S (.mq i.size y' z')=some (x,wr)):Good P E S a w o x wr:=by
 have r:=h.dK hy;have rz:=h.dK hz;simp only[exec]at b;split at b
 .rename_i kk j ej;rw[ej]at rz;have V:=rz.dE;split at b
  .rename_i es F;rw[F]at r;split at b
   .rename_i l;split at b
    .rename_i el A;split at b
     .rename_i s;obtain⟨rfl,rfl⟩:=bl b;rcases r.wZ with⟨_,X⟩|⟨ad,c,k,vs,n,hk,Q,I,_,_⟩
      .subst X;simp at A
      .have U:k=i.size:=(hk el (QD A)).symm.trans s;subst U;refine Good.pure h (B8 R N hi n V l.1 l.2) ?_
       have h2:(es.flatten.drop (j.toNat*i.size)).take i.size=el:=by
        apply List.ext_getElem?
        grind [sf]
       have K:=(Q.drop (j.toNat*i.size)).take i.size;rw[h2]at K;refine .ref _ _ _ K.1 (λq u hu=> ?_) K.2
       grind [add_add,C1,ed]
     .cases b
    .cases b
   .cases b
  .rename_i id ab F;rw[F]at r;split at b
   .rename_i d;split at b
    .rename_i e0 k' es I;split at b
     .rename_i l;obtain⟨rfl,rfl⟩:=bl b
      let⟨D,n⟩:=r.iy (show(S.gh L).V id=ab from d)
      let⟨vs,f,hk,Q⟩:=h.gd D I
      rcases f.2 with⟨p,X⟩|⟨g,cap,cur,p,B,hh,_⟩
      .omega
      .rw[show(S.gh L).L id=L id from rfl,p]at n
       refine Good.pure h (B8 R N hi n V l.2.1 l.2.2) ?_;refine .cp _ _ _ _ _ _ D (qap d.symm) (λ_=> ?_)
       rw[show(S.gh L).L id=L id from rfl,p]
       simp[bp,add_mid]
     .cases b
    .cases b
   .cases b
  .rename_i id ab k0 lo m F;rw[F]at r;split at b
   .rename_i d;split at b
    .rename_i e0 k' es I;split at b
     .rename_i l
      let⟨hk1,T,W,B,hb2⟩:=l
      subst T;obtain⟨rfl,rfl⟩:=bl b
      let⟨D,ad,c,n,a0,m0,c0,H,K,h2,h3,J⟩:=r.te (show(S.gh L).V id=ab from d)
      let⟨vs,f,hk,Q⟩:=h.gd D I
      have H:L id= .slice a0 m0 c0:=H;rcases f.2 with⟨p,X⟩|⟨g,cap,cur,p,hb1',hh,_⟩
      .omega
      .rw[p]at H;injection H with e1 e2 e3
       subst e1 e2 e3;rcases J with J|J
       .omega
       .subst J;refine Good.pure h (B8 R N hi n V W B) ?_;refine .cp _ _ _ _ _ _ D (qap d.symm) (λ_=> ?_)
        grind [bp,add_mid]
     .cases b
    .cases b
   .cases b
  .cases b
 .cases b
def VU{t e:TI}{y z:Od}{ad:Addr}{n:Nat}{i:TypeInfo}{k:IntKind}{j:Int}(f:o.op= .indexAddr t y z)(d:P.underlying t=some (.array n e))(hi:P.info? e=some i)
  (c:a.eval y= .pointer (some ad)) (b:a.eval z= .int k j) (h:0<=j) (g:j<n):(execOp a.eval o).run P w= .ok (.value (.pointer (some (ad.add (j.toNat*i.size))))) w:=by
 simp[execOp,f,Instr.indexAt,Instr.sureAddr,Qo d,c,b,asIntOf,sizeOf,typeInfo,hi,h,g]
def qM{q:PQ}{xs:Z aQ}(b:exec Γ nid S (.lf q xs)=some (x,wr)):je q (xs.map (·.val S))=some x/\wr=none:=by
 simp only[exec,Qh]at b;obtain⟨v,c,b⟩:=b;injection b with h1 d
 subst h1 d;exact⟨c,rfl⟩
def Tz(h:Rel E S a w L){t t2:TI}{y z:Od}{e d:aQ}(m:o.op= .binOp .add t y z t2)(l:aM y=some e)(k:aM z=some d)(n:exec Γ nid S (.lf .B4 [e,d])=some (x,wr)):Good P E S a w o x wr:=by
 have g:=h.dK l;have f:=h.dK k;obtain⟨b,rfl⟩:=qM n;simp only[Qj,QC]at b;generalize e.val S=p at g b;generalize d.val S=q at f b;unfold je at b;split at b<;>simp only[reduceCtorEq,List.cons.injEq,Q8,qac]at*<;>try contradiction
 rename_i j i _ s;obtain⟨rfl,rfl⟩:=s;simp only[Qh,B4]at b;obtain⟨r,c,rfl⟩:=b;split at c
 .rename_i hs;injection c with c
  subst c;refine Good.pure h (v:= .string (j++i)) ?_ (.str _);have hi:IntKind.i64.max=9223372036854775807:=rfl;simp[execOp,m,eqGuard,binOp,g.kh,f.kh,Op.stringOp,hi];omega
 .cases c
def NW(h:Rel E S a w L){neg:Bool}{t t2:TI}{r:Array (String×TI)}{y:Od}{i:aQ}(g:o.op= .binOp (if neg then .neq else .eql) t y (.const .nilIface) t2)(n:P.underlying t=some (.interface r))(s:aM y=some i)
  (z:exec Γ nid S (.lf (.CG neg) [i])=some (x,wr)):Good P E S a w o x wr:=by
 have f:=h.dK s;obtain⟨c,rfl⟩:=qM z;simp only[Qj,QC]at c;generalize i.val S=p at f c;have q:a.eval (.const .nilIface)= .nilIface:=rfl
 have e:a.eval y= .nilIface->(execOp a.eval o).run P w= .ok (.value (.bool !neg)) w:=by
  intro k
  have j:(Op.equal t .nilIface .nilIface).run P w= .ok true w:=by show(Op.equalIn (9999+1) t _ _).run P w=_;rw[Op.equalIn];simp[Qo n]
  cases neg<;>simp only[QR,QE,Qp]at g<;>simp[execOp,g,k,q,eqGuard,binOp,j]
 have d:∀(T:TI) (u:Va),a.eval y= .iface T u->(execOp a.eval o).run P w= .ok (.value (.bool neg)) w:=by
  intro T u k
  have j:(Op.equal t (.iface T u) .nilIface).run P w= .ok false w:=by show(Op.equalIn (9999+1) t _ _).run P w=_;rw[Op.equalIn];simp[Qo n]
  cases neg<;>simp only[QR,QE,Qp]at g<;>simp[execOp,g,k,q,eqGuard,binOp,j]
 unfold je at c;split at c<;>simp only[reduceCtorEq,PQ.CG.injEq,List.cons.injEq,Q8,qac]at*<;>try contradiction
 .rename_i T u m l;subst m l;injection c with c
  subst c;obtain⟨A,hu⟩:=f.LA;exact Good.pure h (d _ _ hu.1) (.bool _)
 .rename_i b m l;subst m l;injection c with c
  subst c
  cases b with
  |true=>rw[Bool.xor_true];exact Good.pure h (e f.JB) (.bool _)
  |false=>obtain⟨T,u,hu⟩:=f.OI;rw[Bool.xor_false];exact Good.pure h (d _ _ hu) (.bool _)
def Vp(h:Rel E S a w L){t:TI}{y:Od}{c:aQ}(f:o.op= .unOp .neg t y)(e:aM y=some c)(g:exec Γ nid S (.lf .neg [c])=some (x,wr)):Good P E S a w o x wr:=by
 have d:=h.dK e;obtain⟨b,rfl⟩:=qM g;simp only[Qj,QC]at b;generalize c.val S=p at d b
 cases p with
 |int k n=>
  change some (PV.int k (k.wrap (0 - n)))=some x at b
  injection b with b
  subst b;exact Good.pure h (v:= .int k (k.wrap (0 - n))) (by simp[execOp,f,d.dE,Op.unary,Op.intArith]) (.int _ _)
 |_=>cases b
def Vr(h:Rel E S a w L){t:TI}(d:o.op= .makeMap t none)(e:exec Γ nid S (.lf .PC [])=some (x,wr)):Good P E S a w o x wr:=by
 obtain⟨c,rfl⟩:=qM e
 change some PV.any=some x at c
 injection c with c
 subst c;exact⟨_,w.alloc (.map #[] 0),L,.map (some w.heap.size),by simp[execOp,d,Instr.makeMap],.inl rfl,.any _,(h.grow (w':=w.alloc (.map #[] 0)) rfl rfl rfl t_ (λb f=>Below.heap_alloc _ _ _ f)).1⟩
def Vs(h:Rel E S a w L){t:TI}{y:Od}{c:aQ}(i:o.op= .makeInterface t y)(g:P.concrete t=true)(f:aM y=some c)(j:exec Γ nid S (.lf (.NP t) [c])=some (x,wr)):Good P E S a w o x wr:=by
 have e:=h.dK f;obtain⟨b,rfl⟩:=qM j;simp only[Qj,QC]at b;generalize c.val S=p at e b
 change (if(p.plain&&p.one)=true then some (PV.fH t p)else none)=some x at b
 split at b
 .rename_i d;rw[Qa]at d;injection b with b
  subst b;exact Good.pure h (by simp[execOp,i,run_makeInterface,g]) (.fH _ _ _ d.1 (e.plain d.1))
 .cases b
def Vm(h:Rel E S a w L){t t0:TI}{u:TypeDesc}{i:TypeInfo}{g:Va}{B:PV}{y:Od}{k:aQ}(r:o.op= .typeAssert y t0 t true)(n:P.underlying t=some u)(d:∀I,u≠ .interface I)(hi:P.info? t=some i)(H:i.zero=some g)(e:tJ g=some B)
  (J:aM y=some k) (N:exec Γ nid S (.lf (.Lg t B) [k])=some (x,wr)):Good P E S a w o x wr:=by
 have l:=h.dK J;obtain⟨b,rfl⟩:=qM N;simp only[Qj,QC]at b;generalize k.val S=p at l b
 have c:∀{M:Nat->Prop} {G:Gh} {p q:PV} {F D:Va},aJ w M G p F->aJ w M G q D->aJ w M G (.cg [p,q]) (.tuple #[F,D]):=λR Q=>by have:=aK.cons R (aK.cons Q aK.nil);exact .cg _ _ this.1 this.2
 unfold je at b;split at b<;>simp only[reduceCtorEq,PQ.Lg.injEq,List.cons.injEq,Q8,qac]at*<;>try contradiction
 .rename_i T z U V A s;obtain⟨rfl,rfl⟩:=A;subst s;obtain⟨v,f,K,m⟩:=l.LA;injection b with b
  subst b
  by_cases j:U=t
  .rw[Qc j];refine Good.pure h (v:= .tuple #[v,.bool true]) ?_ (c (m.plain K) (.bool _));cases u<;>first|exact absurd rfl (d _)|simp[execOp,r,f,Instr.typeAssert,Qo n,j]
  .rw[Qg j];refine Good.pure h (v:= .tuple #[g,.bool false]) ?_ (c (ue e) (.bool _));cases u<;>first|exact absurd rfl (d _)|simp[execOp,r,f,Instr.typeAssert,Qo n,j,zeroValue,typeInfo,hi,H]
 .rename_i T z A s;obtain⟨rfl,rfl⟩:=A;subst s;injection b with b
  subst b;refine Good.pure h (v:= .tuple #[g,.bool false]) ?_ (c (ue e) (.bool _));cases u<;>first|exact absurd rfl (d _)|simp[execOp,r,l.JB,Instr.typeAssert,Qo n,zeroValue,typeInfo,hi,H]
def CZ:∀{es:Z (Z PV)} {l:Z UInt8},bytesOf es=some l->es=l.map λb=>[.int .u8 (b.toNat:Int)]
 |[],l,h=>by injection h with h;subst h;rfl
 |e::es,l,h=>by
  unfold bytesOf at h;split at h
  .rename_i f;cases f
  .rename_i n j f;injection f with i g
   subst i g;split at h
   .rename_i b m c d;injection h with h
    subst h;rw[Qj,<-CZ d];unfold byteOf at c;split at c
    .rename_i k;injection c with c
     subst c
     have:(((UInt8.ofNat n.toNat).toNat:Nat):Int)=n:=by rw[UInt8.toNat_ofNat',Nat.mod_eq_of_lt O];omega
     rw[this]
    .cases c
   .cases h
  .cases h
def Vy(h:Rel E S a w L){f i e:TI}{y:Od}{q:aQ}(z:o.op= .convert f i y)(hs:P.underlying f=some (.slice e))(H:P.underlying e=some (.int .u8))(F:P.underlying i=some .string)(K:aM y=some q)
  (D:exec Γ nid S (.lf .PX [q])=some (x,wr)):Good P E S a w o x wr:=by
 have r:=h.dK K;obtain⟨d,rfl⟩:=qM D;simp only[Qj,QC]at d;generalize q.val S=p at r d;unfold je at d;split at d<;>simp only[reduceCtorEq,List.cons.injEq,Q8,qac]at*<;>try contradiction
 rename_i es _ R;subst R;simp only[Qh]at d;obtain⟨l,A,rfl⟩:=d;have g:=CZ A
 have n:es.flatten=l.map λb=> .int .u8 (b.toNat:Int):=by
  rw[g];clear A g r D
  induction l with
  |nil=>rfl
  |cons b l J=>rw[Qj,List.flatten_cons,J];rfl
 rcases r.wZ with⟨d,I⟩|⟨ad,c,k,vs,d,hk,u,N,_⟩
 .have t:l=[]:=by rw[g]at I;simpa using I
  subst t;refine Good.pure h (v:= .string ⟨#[]⟩) ?_ (.str _);simp only[execOp,z,d,Qs];rw[run_convert_bytes_string w f i e none 0 0 hs H F];simp[Conv.bytesToString];rfl
 .refine Good.pure h (v:= .string ⟨l.toArray⟩) ?_ (.str _);have s:es.length=l.length:=by rw[g,Qv]
  simp only[execOp,z,d,Qs,s];rw[run_convert_bytes_back w f i e ad c l hs H F λj B=> ?_]
  .rfl
  .have m:j<vs.length:=by rw[u.1,n,Qv];exact B
   have t:=(N j vs[j] (Qt m)).1;have Q:=u.2 j (.int .u8 (l[j].toNat:Int)) vs[j] (by rw[n,Qr,Qt B];rfl) (Qt m)
   rw[t,Q.dE]
def JY(h:Rel E S a w L){t:TI}{y:Od}{i:aQ}{lo hi:Y Od}{z:Z aQ}(K:o.op= .slice t y lo hi none)(B:P.underlying t=some .string)(J:aM y=some i)
  (I:(∃l d,lo=some l/\hi=none/\aM l=some d/\z=[d])\/(∃l d,lo=none/\hi=some l/\aM l=some d/\z=[d])\/(∃l d m A,lo=some l/\hi=some m/\aM l=some d/\aM m=some A/\z=[d,A]))
  (N:exec Γ nid S (.lf (.ja lo.isSome hi.isSome) (i::z))=some (x,wr)):Good P E S a w o x wr:=by
 have g:=h.dK J;obtain⟨b,rfl⟩:=qM N
 have D:∀s:C,a.eval y= .string s->(execOp a.eval o).run P w=((Instr.slice t (.string s) (lo.map a.eval) (hi.map a.eval) none).run P w).andThen λv w'=> .ok (.value v) w':=by intro s hs;simp only[execOp,K,hs,Qs,Q5,run_sliceAt_string (P:=P) w t _ _ _ none B];rfl
 rcases I with⟨l,d,rfl,rfl,j,rfl⟩|⟨l,d,rfl,rfl,j,rfl⟩|⟨l,d,m,A,rfl,rfl,j,hm,rfl⟩
 .have f:=h.dK j;simp only[Qj,QC,qbg,Option.isSome_none]at b;generalize i.val S=p at g b;generalize d.val S=q at f b;unfold je at b;split at b<;>simp only[reduceCtorEq,PQ.ja.injEq,List.cons.injEq,Q8,qac]at*<;>try contradiction
  rename_i s k n _ u;obtain⟨rfl,rfl⟩:=u;simp only[Qh,ja]at b;obtain⟨r,c,rfl⟩:=b;split at c
  .rename_i e;injection c with c
   subst c;refine Good.pure h (v:= .string (s.extract n.toNat s.size)) ?_ (.str _);rw[D s g.kh,Qn,Q5,f.dE,run_slice_string_from_if w t s k n B,Qc ⟨e.1,e.2.1⟩];rfl
  .cases c
 .have f:=h.dK j;simp only[Qj,QC,qbg,Option.isSome_none]at b;generalize i.val S=p at g b;generalize d.val S=q at f b;unfold je at b;split at b<;>simp only[reduceCtorEq,PQ.ja.injEq,List.cons.injEq,Q8,qac]at*<;>try contradiction
  rename_i s k n _ u;obtain⟨rfl,rfl⟩:=u;simp only[Qh,ja]at b;obtain⟨r,c,rfl⟩:=b;split at c
  .rename_i e;injection c with c
   subst c;refine Good.pure h (v:= .string (s.extract 0 n.toNat)) ?_ (.str _);rw[D s g.kh,Qn,Q5,f.dE,run_slice_string_to_if w t s k n B,Qc ⟨e.2.1,e.2.2⟩];rfl
  .cases c
 .have f:=h.dK j;have rm:=h.dK hm;simp only[Qj,QC,qbg]at b;generalize i.val S=p at g b;generalize d.val S=q at f b;generalize A.val S=Q at rm b;unfold je at b;split at b<;>simp only[reduceCtorEq,PQ.ja.injEq,List.cons.injEq,Q8,qac]at*<;>try contradiction
  rename_i s k n H F _ u;obtain⟨rfl,rfl,rfl⟩:=u;simp only[Qh,ja]at b;obtain⟨r,c,rfl⟩:=b;split at c
  .rename_i e;injection c with c
   subst c;refine Good.pure h (v:= .string (s.extract n.toNat F.toNat)) ?_ (.str _);rw[D s g.kh,Qn,Qn,f.dE,rm.dE,run_slice_string w t s k H n F B e.1 e.2.1 e.2.2];rfl
  .cases c
def Lq{M:Nat->Prop}{G:Gh}{t:TI}{n:Y Nat}{cs':Z PV}{vs:Z Va}{c:Nat}{x:PV}(b:nc P t=some n)(f:aK w M G cs' (vs.drop c))(e:nr n cs'=some x):∃v,(part t vs.toArray c).run P w= .ok v w/\aJ w M G x v:=by
 cases n with
 |none=>
  cases h:cs' with
  |nil=>rw[h]at e;simp[nr]at e
  |cons y r=>
   rw[h]at e f;simp[nr,Qb]at e;subst e
   let⟨v,us,k,h1,_⟩:=f.cons_inv
   refine⟨v,?_,h1⟩
   have p:vs[c]?=some v:=by
    have:(vs.drop c)[0]?=some v:=by rw[k];rfl
    simpa[List.getElem?_drop]using this
   have g:(isAgg t).run P w= .ok false w:=by
    unfold nc at b;split at b
    .simp at b
    .simp at b
    .rename_i d _ j q;unfold isAgg;rw[Qs,Qo q w];cases d<;>simp_all
    .cases b
   simp[part,g,p]
 |some m=>
  simp only[nr]at e;split at e
  .rename_i s;injection e with e
   subst e
   have hi:∃i,P.info? t=some i/\i.size=m:=by
    unfold nc at b;split at b
    .simpa using b
    .simpa using b
    .simp at b
    .cases b
   let⟨i,hi,hs⟩:=hi
   have g:(isAgg t).run P w= .ok true w:=by
    unfold nc at b;unfold isAgg;split at b
    .rename_i j;rw[Qs,Qo j w];simp
    .rename_i j;rw[Qs,Qo j w];simp
    .simp at b
    .cases b
   have l:=f.take m;refine⟨.agg ((vs.drop c).take m).toArray,?_,.agg _ _ l.1 l.2⟩;simp[part,Qs,g,QK,sizeOf,typeInfo];simp[program,Sem.run,hi,hs]
  .cases e
def R1{M:Nat->Prop}{G:Gh}{t:TI}{n:Y Nat}{cs:Z PV}{vs:Z Va}{d:Nat}{x:PV}(D:nc P t=some n)(z:aK w M G cs vs)(A:nr n ((cs.drop d).map nz)=some x):∃v,(part t vs.toArray d).run P w= .ok v w/\aJ w M G x v:=by
 have p:aK w M G ((cs.drop d).map nz) (vs.drop d):=⟨by simp[z.1],λi y v u B=>by
  rw[Qr,Qh]at u;obtain⟨y0,m,rfl⟩:=u;have K:=(z.drop d).2 i y0 v m B
  cases K with
  |cu|slnil=>exact .slnil
  |any=>exact .any _
  |undef=>exact .undef
  |int k n=>exact .int k n
  |bool b=>exact .bool b
  |dI b=>exact .dI b
  |str s=>exact .str s
  |fF=>exact .fF
  |aT f g us e h=>exact .aT f g us e h
  |fe f g us e h=>exact .fe f g us e h
  |agg cs us e h=>exact .agg cs us e h
  |cg cs us e h=>exact .cg cs us e h
  |ptr id ab d a l j h=>exact .ptr id ab d a l j h
  |ref cs a us e q h=>exact .ref cs a us e q h
  |sl es a c k us hk e q h H hm=>exact .sl es a c k us hk e q h H hm
  |own id ab a n c l j h=>exact .own id ab a n c l j h
  |cp id ab k i d a l j h=>exact .cp id ab k i d a l j h
  |view id ab k lo n a c l j h=>exact .view id ab k lo n a c l j h
  |qm=>exact .qm
  |rM T v=>exact .rM T v
  |fH T x v F h=>exact .fH T x v F h
  |gm ks us b es N I r hk e h1 J=>exact .gm ks us b es N I r hk e h1 J⟩
 exact Lq D p A
def Vw(h:Rel E S a w L){t:TI}{fs:Array Field}{f:Field}{n:Y Nat}{i:Nat}{y:Od}{e:aQ}(q:o.op= .field t y i)(l:P.underlying t=some (.struct fs))(s:fs[i]?=some f)(r:nc P f.type=some n)(j:aM y=some e)
  (c:exec Γ nid S (.Iu n f.offset e)=some (x,wr)):Good P E S a w o x wr:=by
 have g:=h.dK j;simp[exec]at c;split at c
 .rename_i cs A;rw[A]at g
  let⟨vs,k,m⟩:=g.lL
  simp only[Qh]at c;obtain⟨b,u,c⟩:=c;injection c with h1 z
  subst h1 z
  let⟨v,p,d⟩:=Lq (w:=w) r (m.drop f.offset) u
  refine Good.pure h (v:=v) ?_ d;simp[execOp,q,Instr.field,Qo l,k,s,asAgg,p]
 .cases c
def TG(h:Rel E S a w L){t e:TI}{n:Y Nat}{len:Nat}{i:TypeInfo}{y z:Od}{k g:aQ}(D:o.op= .index t y z)(u:P.underlying t=some (.array len e))(F:nc P e=some n)(hi:P.info? e=some i)(r:aM y=some k)(q:aM z=some g)
  (c:exec Γ nid S (.C4 e n len i.size k g)=some (x,wr)):Good P E S a w o x wr:=by
 have m:=h.dK r;have l:=h.dK q;simp only[exec]at c;split at c
 .rename_i cs Q j N K;rw[N]at m;rw[K]at l;obtain⟨vs,s,A⟩:=m.lL;have H:=l.dE;split at c
  .rename_i p;simp only[Qh]at c;obtain⟨b,I,c⟩:=c;injection c with h1 J
   subst h1 J;obtain⟨v,B,f⟩:=R1 (w:=w) F A I;refine Good.pure h (v:=v) ?_ f;have d:(Go.sizeOf e).run P w= .ok i.size w:=by simp[sizeOf,typeInfo,program,Sem.run,hi]
   simp[execOp,D,Instr.index,Qo u,s,H,asIntOf,p.1,p.2,d,B]
  .cases c
 .cases c
def Rel.J9(h:Rel E S a w L){y:PV}{v:Va}{es:Z (Z PV)}(r:aJ w (aI E S L) (S.gh L) y v)(b:gM S y=some es):∃(ad:Y Addr) (c:Nat),v= .slice ad es.length c:=by
 unfold gM at b;split at b
 .cases b;exact⟨none,0,r.ml⟩
 .cases b;rcases r.wZ with⟨e,p⟩|⟨ad,c,k,vs,e,_⟩
  .subst p;exact⟨none,0,e⟩
  .exact⟨_,_,e⟩
 .rename_i id ab;split at b
  .rename_i d;split at b
   .rename_i i;cases b
    let⟨l,e⟩:=r.iy (show(S.gh L).V id=ab from d)
    let⟨vs,f,hk,u⟩:=h.gd l i
    rcases f.2 with⟨m,p⟩|⟨g,cap,s,m,_⟩
    .exact⟨none,0,by rw[e,show(S.gh L).L id=L id from rfl,m,p]⟩
    .exact⟨_,_,by rw[e,show(S.gh L).L id=L id from rfl,m]⟩
   .cases b
  .cases b
 .rename_i id ab k lo n;split at b
  .rename_i d;split at b
   .split at b
    .rename_i A t q i _;cases b
     let⟨l,ad,c,e,j⟩:=r.te (show(S.gh L).V id=ab from d)
     have z:=h.Df l i j
     grind
    .cases b
   .cases b
  .cases b
 .cases b
def TC(h:Rel E S a w L){y:Od}{c:aQ}{t:TI}(i:o.op= .call {callee:= .builtin .len,args:=#[y],argTypes:=#[t]})(g:P.underlying t=some .string)(d:aM y=some c)
  (b:exec Γ nid S (.len true c)=some (x,wr)):Good P E S a w o x wr:=by
 have r:=h.dK d;simp[exec]at b;split at b
 .rename_i s e;rw[e]at r;obtain⟨rfl,rfl⟩:=bl b;have f:=r.kh;exact Good.pure h (by simp[execOp,i,resolve,invoke,builtin,Builtin.len_,Qo g,f,goInt]) (.int _ _)
 .cases b
def Vv(h:Rel E S a w L){y:Od}{f:aQ}{t e:TI}(k:o.op= .call {callee:= .builtin .len,args:=#[y],argTypes:=#[t]})(j:P.underlying t=some (.slice e))(g:aM y=some f)
  (b:exec Γ nid S (.len false f)=some (x,wr)):Good P E S a w o x wr:=by
 have r:=h.dK g;simp only[exec,Qh]at b;obtain⟨es,d,b⟩:=b;injection b with h1 l
 subst h1 l
 let⟨ad,c,i⟩:=h.J9 r d
 exact Good.pure h (by simp[execOp,k,resolve,invoke,builtin,Builtin.len_,Qo j,i,goInt]) (.int _ _)
def JZ(h:Rel E S a w L){y z:Od}{d c:aQ}{mx:Bool}{l:Array TI}(j:o.op= .call {callee:= .builtin (if mx then .max else .min),args:=#[y,z],argTypes:=l})(n:aM y=some d)(m:aM z=some c)
  (b:exec Γ nid S (.rN mx d c)=some (x,wr)):Good P E S a w o x wr:=by
 have f:=h.dK n;have e:=h.dK m;simp[exec]at b;split at b
 .rename_i k p u q t s;split at b
  .rename_i r;subst r;obtain⟨rfl,rfl⟩:=bl b;rw[t]at f;rw[s]at e;have g:=f.dE;have i:=e.dE;cases mx
   .exact Good.pure h (by simp[execOp,j,resolve,invoke,builtin,Builtin.min_,Builtin.min2,g,i]) (.int _ _)
   .exact Good.pure h (by simp[execOp,j,resolve,invoke,builtin,Builtin.max_,Builtin.max2,g,i]) (.int _ _)
  .cases b
 .cases b
end
end
section
open Go.RowKit
section
variable{P:Pr}{E:En}{S:St}{a:Act}{w:Wo}{L:Nat->Va}{o:Oper}{x:PV}{wr:Y (Nat×dg)}{Γ:gW}{nid:Nat}
def Gx(b:Nat):∀(vs:Z Va) (s:Nat) (cells:Array Va),b+s+vs.length<=cells.size->
  ((vs.zipIdx s).foldl (λcs (p:Va×Nat)=>cs.setIfInBounds (b+p.2) p.1) cells).toList=cells.toList.take (b+s)++vs++cells.toList.drop (b+s+vs.length)
 |[],s,cells,_=>t_
 |v::vs,s,cells,h=>by
  simp[List.zipIdx_cons,List.foldl_cons];rw[Gx b vs (s+1) _ (by simp at h ⊢;omega)]
  have:=list_seg_step cells.toList (b+s) v vs (by simp at h ⊢;omega)
  simpa[Array.toList_setIfInBounds,Nat.add_assoc]using this
def Mx(b:Nat)(vs cells:Array Va)(h:b+vs.size<=cells.size):
  (vs.zipIdx.foldl (λcs (p:Va×Nat)=>cs.setIfInBounds (b+p.2) p.1) cells).toList=cells.toList.take b++vs.toList++cells.toList.drop (b+vs.size):=by
 have:=Gx b vs.toList 0 cells (by simpa using h)
 simp only[qbh,Q0]at this;rw[<-this,<-Array.foldl_toList];simp
theorem aK.eF{M:Nat->Prop}{G:Gh}{cs xs:Z PV}{vs us:Z Va}(h:aK w M G cs vs)(k:aK w M G xs us)(b:Nat):
  aK w M G (eF cs b xs) (vs.take b++us++vs.drop (b+us.length)):=by
 unfold TQ.eF;rw[k.1];exact((h.take b).append k).append (h.drop _)
def Ds(h:Rel E S a w L)(c:Nat->Y (Nat×Nat)):∀(d:Z (Nat×Od)) (ps:Z (Nat×Nat×aQ)) (cells:Array Va) (cs cs':Z PV),pH c d=some ps->
  aK w (aI E S L) (S.gh L) cs cells.toList->lJ S cs ps=some cs'->∃b,Instr.fill c cells (d.map λp=>(p.1,a.eval p.2))=some b/\aK w (aI E S L) (S.gh L) cs' b.toList
 |[],ps,cells,cs,cs',f,g,e=>by simp[pH]at f;subst f;simp[lJ,Qb]at e;subst e;exact⟨cells,rfl,g⟩
 |(i,y)::rest,ps,cells,cs,cs',f,g,e=>by
  simp only[pH,QH,Qi,Qd,QO,Qb]at f;obtain⟨_,⟨⟨off,n⟩,D,t,B,rfl⟩,u,l,rfl⟩:=f;simp only[lJ]at e;split at e
  .rename_i H
   let⟨h1,J,I⟩:=H
   have r:=(h.dK B).cells (λz A=>Qe.1 I z A)
   have F:(a.eval y).cells.size=n:=by have:=r.1.1;simp at this;omega
   have s:cells.size=cs.length:=by have:=g.1;simpa using this
   have q:=Mx off (a.eval y).cells cells O
   have j:aK w (aI E S L) (S.gh L) (TQ.eF cs off (t.val S).cells) ((a.eval y).cells.zipIdx.foldl (λcs (p:Va×Nat)=>cs.setIfInBounds (off+p.2) p.1) cells).toList:=by rw[q];have:=g.eF r.1 off;simpa using this
   let⟨b,m,k⟩:=Ds h c rest u _ _ cs' l j e
   refine⟨b,?_,k⟩;simp only[Qj,Instr.fill,D];rw[Qg (by simp[F];omega)]
   exact m
  .cases e
theorem F4{M:Nat->Prop}{G:Gh}:∀{vs:Z Va} {cs:Z PV},vs.mapM tJ=some cs->aK w M G cs vs
 |[],cs,h=>by simp at h;subst h;exact .nil
 |v::vs,cs,h=>by simp[QH,Qi,Qd,QO,Qb]at h;obtain⟨x,c,xs,b,rfl⟩:=h;exact .cons (ue c) (F4 b)
def wV{M:Nat->Prop}{G:Gh}{t:TI}{z:Z PV}(h:oD P t=some z):∃i v,P.info? t=some i/\i.zero=some v/\v.cells.size=i.size/\aK w M G z v.cells.toList:=by grind [oD,F4]
def LD(h:Rel E S a w L){t:TI}{b:Array (Nat×Od)}{z:Z PV}{ps:Z (Nat×Nat×aQ)}(y:o.op= .build t b)(B:oD P t=some z)
  (D:(∃d c,P.underlying t=some (.struct d)/\d.toList.mapM (λf=>(P.info? f.type).map λi=>(f.offset,i.size))=some c/\pH (λi=>c[i]?) b.toList=some ps)\/
   (∃n e i,P.underlying t=some (.array n e)/\P.info? e=some i/\pH (λj=>some (j*i.size,i.size)) b.toList=some ps))
  (l:exec Γ nid S (.build z ps)=some (x,wr)):Good P E S a w o x wr:=by
 simp only[exec,Qh]at l;obtain⟨cs,A,l⟩:=l;injection l with h1 F
 subst h1 F
 let⟨i,v,hi,s,hs,u⟩:=wV (P:=P) (w:=w) (M:=aI E S L) (G:=S.gh L) B
 rcases D with⟨d,c,hu,m,q⟩|⟨n,e,H,hu,p,q⟩
 .let⟨cells,k,g⟩:=Ds h _ _ _ _ _ _ q u A
  refine Good.pure (v:= .agg cells) h ?_ (by have:=g;exact(show(cells:Array Va)=cells.toList.toArray by simp)▸ .agg cs cells.toList this.1 this.2)
  have r:P.built t (b.map λ(i,x)=>(i,a.eval x)).toList=some cells:=by simp[Program.built,hi,hu,s,m];simpa using k
  simp[execOp,y,Qs,run_build w t _ cells r,QK,QP]
 .let⟨cells,k,g⟩:=Ds h _ _ _ _ _ _ q u A
  refine Good.pure (v:= .agg cells) h ?_ (by have:=g;exact(show(cells:Array Va)=cells.toList.toArray by simp)▸ .agg cs cells.toList this.1 this.2)
  have r:P.built t (b.map λ(i,x)=>(i,a.eval x)).toList=some cells:=by simp[Program.built,hi,hu,s,p];simpa using k
  simp[execOp,y,Qs,run_build w t _ cells r,QK,QP]
end
end
section
open Go.RowKit
section
variable{P:Pr}{E:En}{S:St}{a:Act}{w:Wo}{L:Nat->Va}{o:Oper}{x:PV}{wr:Y (Nat×dg)}{Γ:gW}{nid:Nat}
def Rel.NO(h:Rel E S a w L)(f:nid<S.N){cs:Z PV}{c:Array Va}(T:TI)(i:aK w (aI E S L) (S.gh L) cs c.toList):
  ∃e,Rel E (S.c7 (some (nid,⟨(S.H nid).ab+1,.box cs⟩))) a (w.alloc (.cells c T)) e/\
   aJ (w.alloc (.cells c T)) (aI E (S.c7 (some (nid,⟨(S.H nid).ab+1,.box cs⟩))) e) ((S.c7 (some (nid,⟨(S.H nid).ab+1,.box cs⟩))).gh e) (.ptr nid ((S.H nid).ab+1) 0) (.pointer (some ⟨w.heap.size,0,none⟩)):=by
 let⟨h1,hs,g⟩:=h.nM (w':=w.alloc (.cells c T)) f ⟨(S.H nid).ab+1,.box cs⟩ (.pointer (some ⟨w.heap.size,0,none⟩)) (.inr (Q9 _)) rfl rfl rfl t_
  (λb d _=>Below.heap_alloc _ _ _ d) (λb _ d=> .inr (by simp[bp,Qb]at d;omega))
  (λhs g=>⟨w.heap.size,c,T,rfl,qa2 w _,.inr h.fr.size,i.mono hs g⟩)
 refine⟨_,h1,?_⟩;refine .ptr _ _ _ _ f ?_ (λ_=> ?_)
 .simp[St.gh,St.c7,bf]
 .simp[St.gh,St.c7,bf,bp]
def Rel.Ls(h:Rel E S a w L)(m:nid<S.N){e k c:Nat}{es:Z (Z PV)}{d:Array Va}(n:∀u∈es,u.length=k)(f:es.length<=c)(q:c<=maxLen)(g:d.toList.length=c*k)(l:aK w (aI E S L) (S.gh L) es.flatten (d.toList.take (es.length*k))):
  ∃j,Rel E (S.c7 (some (nid,⟨(S.H nid).ab+1,.row e k es⟩))) a (w.alloc (.cells d e)) j/\
   aJ (w.alloc (.cells d e)) (aI E (S.c7 (some (nid,⟨(S.H nid).ab+1,.row e k es⟩))) j) ((S.c7 (some (nid,⟨(S.H nid).ab+1,.row e k es⟩))).gh j) (.own nid ((S.H nid).ab+1)) (.slice (some ⟨w.heap.size,0,none⟩) es.length c):=by
 have r:(d.toList.take (es.length*k)).length=es.length*k:=by rw[l.1,hU es k n]
 let⟨h1,hs,p⟩:=h.nM (w':=w.alloc (.cells d e)) m ⟨(S.H nid).ab+1,.row e k es⟩ (.slice (some ⟨w.heap.size,0,none⟩) es.length c) (.inr (Q9 _)) rfl rfl rfl t_
  (λb i _=>Below.heap_alloc _ _ _ i) (λb _ i=> .inr (by simp[bp,Qb]at i;omega))
  (λhs p=>⟨d.toList.take (es.length*k),⟨r,.inr ⟨w.heap.size,c,d,rfl,QS (FK E _) h.fr.size,qa2 w _,f,q,by simpa using g,rfl⟩⟩,n,l.mono hs p⟩)
 refine⟨_,h1,?_⟩;refine .own _ _ _ _ _ m ?_ (λ_=> ?_)
 .simp[St.gh,St.c7,bf]
 .simp[St.gh,St.c7,bf]
def Rel.newRow(h:Rel E S a w L)(i:nid<S.N){e k:Nat}{es:Z (Z PV)}{b:Array Va}(g:∀u∈es,u.length=k)(j:es.length<=maxLen)(d:aK w (aI E S L) (S.gh L) es.flatten b.toList):
  ∃c,Rel E (S.c7 (some (nid,⟨(S.H nid).ab+1,.row e k es⟩))) a (w.alloc (.cells b e)) c/\
   aJ (w.alloc (.cells b e)) (aI E (S.c7 (some (nid,⟨(S.H nid).ab+1,.row e k es⟩))) c) ((S.c7 (some (nid,⟨(S.H nid).ab+1,.row e k es⟩))).gh c) (.own nid ((S.H nid).ab+1)) (.slice (some ⟨w.heap.size,0,none⟩) es.length es.length):=by
 have f:b.toList.length=es.length*k:=by rw[d.1,hU es k g]
 exact h.Ls i g (Ql _) j f (by rw[<-f,qbf];exact d)
def FH(e:TI)(cells:Array Va):(newRow e cells).run P w= .ok ⟨w.heap.size,0,none⟩ (w.alloc (.cells cells e)):=rfl
def AF(e:TI)(v:Va):(newVar e v).run P w= .ok ⟨w.heap.size,0,none⟩ (w.alloc (.cells v.cells e)):=rfl
def PM(h:Rel E S a w L)(g:nid<S.N){t:TI}{y:Od}{c:aQ}(f:o.op= .box t y)(e:aM y=some c)(b:exec Γ nid S (.box c)=some (x,wr)):Good P E S a w o x wr:=by
 simp only[exec]at b;split at b
 .rename_i k;obtain⟨rfl,rfl⟩:=bl b;have r:=((h.dK e).cells (λz d=>Qe.1 k z d)).1
  let⟨l,j,i⟩:=h.NO g t r
  exact⟨_,_,l,_,by simp[execOp,f,Instr.box,AF],.inl rfl,i,j⟩
 .cases b
def Sm(h:Rel E S a w L)(g:nid<S.N){t:TI}{z:Z PV}(f:o.op= .alloc t)(c:oD P t=some z)(b:exec Γ nid S (.alloc z)=some (x,wr)):Good P E S a w o x wr:=by
 simp only[exec]at b;obtain⟨rfl,rfl⟩:=bl b
 let⟨i,v,hi,d,hs,e⟩:=wV (P:=P) (w:=w) (M:=aI E S L) (G:=S.gh L) c
 let⟨l,k,j⟩:=h.NO g t e
 exact⟨_,_,l,_,by simp[execOp,f,Instr.alloc,zeroValue,typeInfo,hi,d,AF],.inl rfl,j,k⟩
theorem Cl(z:Array Va)(c:0<z.size)(n:Nat):((Array.range (n*z.size)).map (z[· % z.size]!)).toList=(replicate n z.toList).flatten:=by
 apply List.ext_getElem?;intro i;have g:(replicate n z.toList).flatten.length=n*z.size:=by rw[hU _ z.size (λu b=>by rw[(List.mem_replicate.1 b).2];simp)];simp
 by_cases hi:i<n*z.size
 .have f:i / z.size<n:=by rw[Nat.div_lt_iff_lt_mul c];exact hi
  have d:i % z.size<z.size:=Nat.mod_lt _ c;have:=sf (replicate n z.toList) z.size (i / z.size) z.toList (λu b=>by rw[(List.mem_replicate.1 b).2];simp) (by rw[List.getElem?_replicate,Qc f]) (i % z.size) d
  have e:i / z.size*z.size+i % z.size=i:=by rw[Nat.mul_comm];exact Nat.div_add_mod i z.size
  rw[e]at this;rw[this];simp[hi,d]
 .grind
def zq{α:Type}:∀(es:Z (Z α)) (k i:Nat) (xs:Z α),(∀u∈es,u.length=k)->xs.length=k->i<es.length->(es.set i xs).flatten=es.flatten.take (i*k)++xs++es.flatten.drop (i*k+xs.length)
 |[],_,_,_,_,_,h=>by simp at h
 |e::es,k,i,xs,hk,b,hi=>by
  have c:e.length=k:=hk e t_
  cases i with
  |zero=>simp[List.set_cons_zero,List.flatten_cons,Nat.zero_mul,List.take_zero,List.nil_append,qai];rw[b,<-c,List.drop_left]
  |succ i=>
   have:=zq es k i xs (λu d=>hk u (by simp[d])) b (by simpa using hi)
   simp[List.set_cons_succ,List.flatten_cons,this];have f:(i+1)*k=e.length+i*k:=by rw[QJ,c];omega
   rw[f,List.take_append,List.take_of_length_le (show e.length<=e.length+i*k by omega),qa3,Nat.add_assoc,List.drop_append,
    List.drop_eq_nil_of_le (show e.length<=e.length+(i*k+xs.length)by omega),qa3]
   simp
def Iw(k:Nat):∀(ps:Z (Nat×aQ)) (es b:Z (Z PV)),(∀u∈es,u.length=k)->ob S k es ps=some b->
  lJ S es.flatten (ps.map λp=>(p.1*k,k,p.2))=some b.flatten/\(∀u∈b,u.length=k)/\b.length=es.length
 |[],es,b,hk,c=>by simp[ob,Qb]at c;subst c;exact⟨rfl,hk,rfl⟩
 |(i,y)::ps,es,b,hk,c=>by
  simp only[ob]at c;split at c
  .rename_i h
   let⟨h1,n,m⟩:=h
   have f:∀u∈es.set i (y.val S).cells,u.length=k:=by
    intro u d;rcases List.mem_or_eq_of_mem_set d with d|d
    .exact hk u d
    .rw[d,h1]
   let⟨g,l,j⟩:=Iw k ps _ _ f c
   refine⟨?_,l,by simpa using j⟩
   have e:i*k+k<=es.flatten.length:=by
    rw[hU es k hk];have:=QT k (show i+1<=es.length by omega)
    rw[QJ]at this;omega
   simp only[Qj,lJ];rw[Qc ⟨h1,e,m⟩];rw[zq es k i _ hk h1 n]at g;exact g
  .cases c
def Iz{k:Nat}:∀{b:Z (Nat×Od)} {ps:Z (Nat×aQ)},(b.mapM λp=>(aM p.2).map λy=>(p.1,y))=some ps->pH (λj=>some (j*k,k)) b=some (ps.map λp=>(p.1*k,k,p.2))
 |[],ps,h=>by simp at h;subst h;simp[pH]
 |p::b,ps,h=>by simp only[QH,Qi,Qd,QO,Qb,Qh]at h;obtain⟨q,⟨y,e,rfl⟩,f,c,rfl⟩:=h;have d:=Iz (k:=k) c;unfold pH at d ⊢;simp only[QH,d];simp[e]
theorem qa{M:Nat->Prop}{G:Gh}{z:Z PV}{vs:Z Va}(h:aK w M G z vs):∀n,aK w M G (replicate n z).flatten (replicate n vs).flatten
 |0=>by simpa using aK.nil
 |n+1=>by simp[List.replicate_succ,List.flatten_cons];exact h.append (qa h n)
def aJ.HT{M:Nat->Prop}{G G':Gh}{y:PV}{v:Va}(h:aJ w M G y v)(g:y.closed=true):aJ w M G' y v:=by
 cases h with
 |any|undef|fe|agg|cg|ptr|own|cp|view=>simp[PV.closed]at g
 |int=>exact .int _ _
 |bool=>exact .bool _
 |dI=>first|exact .dI _|simp[PV.closed]at g
 |str=>exact .str _
 |fF=>exact .fF
 |cu=>exact .cu
 |aT f cs vs e h=>
  cases cs with
  |nil=>exact .aT f [] vs e (λi x v m _=>by simp at m)
  |cons=>simp[PV.closed]at g
 |ref cs ad vs e d h=>exact .ref cs ad vs e d h
 |sl es ad c k vs hk e d h p hm=>exact .sl es ad c k vs hk e d h p hm
 |slnil=>exact .slnil
 |qm=>exact .qm
 |rM T v=>exact .rM T v
 |fH T x v l h=>exact .fH T x v l (h.plain l)
 |gm ks us b es s q j hk n h1 r=>exact .gm ks us b es s q j hk n h1 r
def TF(h:Rel E S a w L){t:TI}{y:Od}{e:aQ}(B:o.op= .box t y)(s:aM y=some e)(d:exec Γ nid S (.C0 e)=some (x,wr)):Good P E S a w o x wr:=by
 simp only[exec]at d;split at d
 .rename_i l;rw[Qa]at l;obtain⟨rfl,rfl⟩:=bl d;have r:=((h.dK s).cells (λz c=>Qe.1 l.1 z c)).1
  let⟨F,g⟩:=h.grow (w':=w.alloc (.cells (a.eval y).cells t)) rfl rfl rfl t_ (λb k=>Below.heap_alloc _ _ _ k)
  refine⟨.value (.pointer (some ⟨w.heap.size,0,none⟩)),_,L,_,by simp[execOp,B,Instr.box,AF],.inl rfl,?_,F⟩
  have m:aK (w.alloc (.cells (a.eval y).cells t)) (aI E S L) cn (e.val S).cells (a.eval y).cells.toList:=
   ⟨r.1,λp z n c f=>((r.2 p z n c f).mono g (Gh.le.refl _)).HT (Qe.1 l.2 z (QD c))⟩
  refine .ref _ _ (a.eval y).cells.toList m.1 (λq u A=>⟨?_,λi=> ?_⟩) m.2
  .rw[add_mid];exact kH (qa2 w _) (by simpa using A)
  .rcases i with⟨id,j,D,k⟩|i
   .have:=((h.obj id j).pI D k).1;exact absurd this (qaE _)
   .exact absurd (h.On i) (qaE _)
 .cases d
theorem aJ.nz{M:Nat->Prop}{G:Gh}{y:PV}{v:Va}(h:aJ w M G y v):aJ w M G (nz y) v:=by
 cases h with
 |cu|slnil=>exact .slnil
 |any=>exact .any _
 |undef=>exact .undef
 |int=>exact .int _ _
 |bool=>exact .bool _
 |dI=>exact .dI _
 |str=>exact .str _
 |fF=>exact .fF
 |aT f cs vs d h=>exact .aT f cs vs d h
 |fe f cs vs d h=>exact .fe f cs vs d h
 |agg cs vs d h=>exact .agg cs vs d h
 |cg cs vs d h=>exact .cg cs vs d h
 |ptr _ _ _ _ h1 e g=>exact .ptr _ _ _ _ h1 e g
 |ref cs ad vs d i h=>exact .ref cs ad vs d i h
 |sl es ad c k vs hk d i h n hm=>exact .sl es ad c k vs hk d i h n hm
 |own _ _ _ _ _ h1 e g=>exact .own _ _ _ _ _ h1 e g
 |cp _ _ _ _ _ _ h1 e g=>exact .cp _ _ _ _ _ _ h1 e g
 |view _ _ _ _ _ _ _ h1 e g=>exact .view _ _ _ _ _ _ _ h1 e g
 |qm=>exact .qm
 |rM T v=>exact .rM T v
 |fH T x v l h=>exact .fH T x v l (h.plain l)
 |gm ks us b es q p j hk m h1 e=>exact .gm ks us b es q p j hk m h1 e
theorem aK.nz{M:Nat->Prop}{G:Gh}{cs:Z PV}{vs:Z Va}(h:aK w M G cs vs):aK w M G (cs.map Go.TQ.nz) vs:=
 ⟨by simp[h.1],λi x v b d=>by
  rw[Qr,Qh]at b;obtain⟨y,c,rfl⟩:=b
  exact(h.2 i y v c d).nz⟩
theorem El(es:Z (Z PV)):(xd es).flatten=es.flatten.map nz:=by simp[xd,List.map_flatten]
def Mj(es:Z (Z PV)):(xd es).length=es.length:=by simp[xd]
def R5{es:Z (Z PV)}{k:Nat}(h:∀u∈es,u.length=k):∀u∈xd es,u.length=k:=by grind [xd]
theorem NK{y:PV}(h:y.closed=true):(nz y).closed=true:=by cases y<;>simp_all [nz,PV.closed]
def Vx(h:Rel E S a w L)(hn:nid<S.N){t e:TI}{len:Nat}{c:Array (Nat×Od)}{i:TypeInfo}{z:Z PV}{ps:Z (Nat×aQ)}{mb:Bool}(ho:o.op= .buildSlice t len c)(X:P.underlying t=some (.slice e))
  (hi:P.info? e=some i) (hz:oD P e=some z) (R:(c.toList.mapM λp=>(aM p.2).map λy=>(p.1,y))=some ps) (K:len*i.size<=16777216) (h0:0<i.size) (hlen:len<=maxLen)
  (n:exec Γ nid S (.GL mb e i.size (replicate len z) ps)=some (x,wr)):Good P E S a w o x wr:=by
 simp only[exec]at n;split at n
 case h_2=>cases n
 rename_i es hf;obtain⟨i',v,g,hv,hs,hr⟩:=wV (P:=P) (w:=w) (M:=aI E S L) (G:=S.gh L) hz;rw[hi]at g;injection g with g
 subst g;have F:z.length=i.size:=by have:=hr.1;simp at this;omega
 obtain⟨h3,h4,h5⟩:=Iw i.size ps _ _ (λu J=>by rw[(List.mem_replicate.1 J).2,F]) hf
 have Q:aK w (aI E S L) (S.gh L) (replicate len z).flatten ((Array.range (len*i.size)).map (v.cells[· % v.cells.size]!)).toList:=by grind [Cl,qa]
 obtain⟨cells,V,hr'⟩:=Ds h _ _ _ _ _ _ (Iz R) Q h3;have B:(xd es).length=len:=by rw[Mj,h5];simp
 replace h4:=R5 h4;replace hr':=hr'.nz;rw[<-El]at hr'
 have k:(execOp a.eval o).run P w= .ok (.value (.slice (some ⟨w.heap.size,0,none⟩) len len)) (w.alloc (.cells cells e)):=by
  have d:Instr.fill (λj=>some (j*i.size,i.size)) ((Array.range (len*i.size)).map (v.cells[· % v.cells.size]!)) (c.map λp=>(p.1,a.eval p.2)).toList=some cells:=by simpa using V
  by_cases m:len*i.size=0
  .simp[execOp,ho,Instr.buildSlice,Qo X,sizeOf,typeInfo,hi,m]at d ⊢;have A:len=0:=by rcases Nat.mul_eq_zero.1 m with h|h<;>omega
   subst A;have s:∀f:Nat->Va,Array.map f (Array.range 0)=#[]:=λf=>t_
   rw[s]at d ⊢;rw[show Instr.fill (λl=>some (l*i.size,i.size)) #[] (List.map (λx=>(x.fst,a.eval x.snd)) c.toList)=some cells from d]
   simp[FH]
  .simp[execOp,ho,Instr.buildSlice,Qo X,sizeOf,typeInfo,zeroValue,hi,hv,m,qaR.2 K]at d ⊢;rw[show Instr.fill (λl=>some (l*i.size,i.size)) (Array.map (λx=>v.cells[x % v.cells.size]!) (Array.range (len*i.size))) (List.map (λx=>(x.fst,a.eval x.snd)) c.toList)=some cells from d]
   simp[FH]
 split at n
 .rename_i hcl;obtain⟨rfl,rfl⟩:=bl n;obtain⟨h1,N⟩:=h.grow (w':=w.alloc (.cells cells e)) rfl rfl rfl t_ (λb W=>Below.heap_alloc _ _ _ W)
  refine⟨_,_,L,_,k,.inl rfl,?_,h1⟩
  have D:∀y∈(xd es).flatten,y.closed=true:=λy H=>by grind [El,NK]
  have r:aK (w.alloc (.cells cells e)) (aI E S L) cn (xd es).flatten cells.toList:=
   ⟨hr'.1,λi0 y v0 H I=>((hr'.2 i0 y v0 H I).mono N (Gh.le.refl _)).HT (D y (QD H))⟩
  rw[<-B];refine .sl (xd es) _ _ i.size cells.toList h4 r.1 (λq u J=>⟨?_,λT=> ?_⟩) r.2 (Ql _) O
  .rw[add_mid];exact kH (qa2 w _) (by simpa using J)
  .rcases T with⟨id,U,hl,W⟩|T
   .have:=((h.obj id U).pI hl W).1;exact absurd this (qaE _)
   .exact absurd (h.On T) (qaE _)
 .obtain⟨rfl,rfl⟩:=bl n
  let⟨L',h6,h7⟩:=h.newRow (e:=e) hn h4 O hr'
  rw[B]at h7;exact⟨_,_,L',_,k,.inl rfl,h7,h6⟩
def Vq(h:Rel E S a w L)(hn:nid<S.N){t e:TI}{y z:Od}{K J:aQ}{i:TypeInfo}{f:Z PV}(ho:o.op= .makeSlice t y z)(ht:P.underlying t=some (.slice e))(hi:P.info? e=some i)(h0:0<i.size)(V:oD P e=some f)
  (W:aM y=some K) (r:aM z=some J) (d:exec Γ nid S (.F1 e i.size i.bytes f K J)=some (x,wr)):Good P E S a w o x wr:=by
 have Q:=h.dK W;have N:=h.dK r;simp only[exec]at d;split at d
 .rename_i k n U m e1 e2;split at d
  .rename_i hb;obtain⟨B,D,hby,l⟩:=hb;obtain⟨rfl,rfl⟩:=bl d;rw[e1]at Q;rw[e2]at N;have X:=Q.dE;have g:=N.dE;obtain⟨i',v,b,s,hs,R⟩:=wV (P:=P) (w:=w) (M:=aI E S L) (G:=S.gh L) V;rw[hi]at b;injection b with b
   subst b;have q:f.length=i.size:=by have:=R.1;simp at this;omega
   have F:n.toNat<=m.toNat:=O
   have j:(madeCells v.cells (m.toNat*i.size)).toList=(replicate m.toNat v.cells.toList).flatten:=by
    unfold madeCells
    grind [Cl]
   have H:(madeCells v.cells (m.toNat*i.size)).toList.length=m.toNat*i.size:=by simp[madeCells]
   have A:aK w (aI E S L) (S.gh L) (replicate n.toNat (f.map nz)).flatten ((madeCells v.cells (m.toNat*i.size)).toList.take ((replicate n.toNat (f.map nz)).length*i.size)):=by
    rw[j,List.length_replicate,show m.toNat=n.toNat+(m.toNat - n.toNat)by omega,<-List.replicate_append_replicate,List.flatten_append,List.take_left' (by rw[hU _ i.size λu g=>by rw[(List.mem_replicate.1 g).2];simpa using hs,List.length_replicate])]
    exact qa R.nz _
   obtain⟨L',h6,T⟩:=h.Ls (e:=e) (k:=i.size) (c:=m.toNat) hn (λu g=>by rw[(List.mem_replicate.1 g).2,Qv,q]) (by rw[List.length_replicate];exact F) l H A
   simp[List.length_replicate]at T;refine⟨_,_,L',_,?_,.inl rfl,T,h6⟩
   have I:(i.bytes:Int)*m<=281474976710656:=by grind
   have p:m<=9223372036854775807:=by simp[maxLen]at l;omega
   have:=run_make (P:=P) w t e i v ht hi s k U n m D B I p;simp[execOp,ho,X,g,Qs,this,QK,QP]
  .cases d
 .cases d
def B7{t:TI}{y z:Od}{b c:Nat}{d:Array Va}{T:TI}{i:TypeInfo}(f:o.op= .store t y z)(hi:P.info? t=some i)(e:a.eval y= .pointer (some ⟨b,c,none⟩))(h:w.heap[b]?=some (.cells d T (0,0)))
  (hs:(a.eval z).cells.size=i.size) (g:c+i.size<=d.size) (j:∀u∈(a.eval z).cells.toList,u.oneCell'=true):
  (execOp a.eval o).run P w= .ok .skip (w.setRow b (d.toList.take c++(a.eval z).cells.toList++d.toList.drop (c+i.size)).toArray):=by
 have:=qbi (P:=P) b c T (a.eval z).cells.toList 0 d w h o_ j;simp[qbh,Q0,hs]at this;simp[execOp,f,e,Instr.storeAt,Instr.sureAddr,storeVar,sizeOf,typeInfo,hi,hs,this]
theorem LW{α:Type}(F c xs:Z α)(k J off n:Nat)(i:c.length=k)(d:J+k<=F.length)(h:xs.length=n)(b:off+n<=k)(e:∀q,q<k->F[J+q]?=c[q]?):
  F.take J++(c.take off++xs++c.drop (off+n))++F.drop (J+k)=F.take (J+off)++xs++F.drop (J+off+n):=by
 have g:F.take (J+off)=F.take J++c.take off:=by
  apply List.ext_getElem?
  grind
 have f:F.drop (J+off+n)=c.drop (off+n)++F.drop (J+k):=by
  apply List.ext_getElem?
  grind
 rw[g,f];simp[qaf]
theorem Eh{α:Type}(b xs:Z α)(p n m:Nat)(c:xs.length=n)(f:p+n<=m)(d:m<=b.length):
  (b.take p++xs++b.drop (p+n)).take m=(b.take m).take p++xs++(b.take m).drop (p+n):=by
 rw[List.take_take,qav O,List.take_append,List.take_of_length_le o_];congr 1;have e:(b.take p++xs).length=p+n:=o_;rw[e,List.drop_take]
def Sg(h:Rel E S a w L){t:TI}{y z:Od}{y' n:aQ}{i:TypeInfo}(ho:o.op= .store t y z)(hi:P.info? t=some i)(hy:aM y=some y')(hz:aM z=some n)
  (f:exec Γ nid S (.store i.size y' n)=some (x,wr)):Good P E S a w o x wr:=by
 have r:=h.dK hy;simp only[exec]at f;split at f
 .rename_i hb;obtain⟨hl,h1⟩:=hb;have N:=(h.dK hz).cells (λu hu=>Qe.1 h1 u hu)
  have hs:(a.eval z).cells.size=i.size:=by have:=N.1.1;simp at this;omega
  split at f
  .rename_i id ab d e;rw[e]at r;split at f
   .rename_i m;split at f
    .rename_i cs A;split at f
     .rename_i hle;obtain⟨rfl,rfl⟩:=bl f;obtain⟨hN,_⟩:=r.lC (show(S.gh L).V id=ab from m)
      obtain⟨b,Q,D⟩:=h.qj r m A;obtain⟨b',l,T,J,W,hr,hE⟩:=h.mO hN A;rw[D]at J;simp only[Value.pointer.injEq,Qb,qaI]at J;obtain⟨rfl,_⟩:=J;have hcl:l.size=cs.length:=by have:=hr.1;simpa using this
      have s:=B7 (P:=P) ho hi Q W hs O N.2
      obtain⟨h2,p,X⟩:=h.nM (w':=w.setRow b (l.toList.take d++(a.eval z).cells.toList++l.toList.drop (d+i.size)).toArray) hN ⟨ab,.box (eF cs d (n.val S).cells)⟩ (L id) (.inl ⟨m.symm,rfl,by rw[A];rfl⟩) rfl rfl rfl t_
       (λk I H=>qbj w b k _ (λek=>H (by rw[A];rfl) (by rw[D,ek];rfl)))
       (λk _ I=> .inl ⟨by rw[A];rfl,I⟩)
       (λp X=>⟨b,_,T,D,qaw w b l _ T _ W,hE,by
        have:=(hr.eF N.1 d).mono p X
        simpa[hs]using this⟩)
      exact⟨_,_,_,undef,s,.inr ⟨rfl,rfl⟩,.undef,h2⟩
     .cases f
    .cases f
   .cases f
  .rename_i id ab k j d e;rw[e]at r;have K:=N.1.nz;have hl1:((n.val S).cells.map nz).length=i.size:=by simpa using hl
   split at f
   .rename_i m;split at f
    .rename_i e0 k' es A;split at f
     .rename_i I;subst I;split at f
      .rename_i c hcj;split at f
       .rename_i hle;obtain⟨rfl,rfl⟩:=bl f;obtain⟨hN,Q⟩:=r.Ff (show(S.gh L).V id=ab from m)
        obtain⟨vs,B,I,hr⟩:=h.gd hN A;have hj:j<es.length:=(QI.1 hcj).1;rcases B.2 with⟨D,h0⟩|⟨g,cap,l,D,hb1,W,V,hcm,hcs,F⟩
        .omega
        rw[show(S.gh L).L id=L id from rfl,D]at Q
        simp only[bp,Qn]at Q;have hck:c.length=k:=I c (QD hcj)
        have hjk:j*k+k<=es.length*k:=by
         have:=QT k (show j+1<=es.length by omega)
         rw[QJ]at this;omega
        have hvl:vs.length=es.length*k:=B.1;have hcapk:es.length*k<=cap*k:=QT _ V;have s:=B7 (P:=P) ho hi Q W hs O N.2;have R:(eF c d ((n.val S).cells.map nz)).length=k:=by simp[eF,hl1];omega
        have hk2:∀u∈es.set j (eF c d ((n.val S).cells.map nz)),u.length=k:=by grind
        have hz2:((n.val S).cells.map nz).length=(a.eval z).cells.toList.length:=K.1.symm
        have hfl:(es.set j (eF c d ((n.val S).cells.map nz))).flatten=eF es.flatten (j*k+d) ((n.val S).cells.map nz):=by
         rw[zq es k j _ I R hj,R]
         grind [eF,LW,nz,hU,sf]
        have U:(w.setRow g (l.toList.take (j*k+d)++(a.eval z).cells.toList++l.toList.drop (j*k+d+i.size)).toArray).ownsRow (dQ E (L id)) e0 k (L id) (es.set j (eF c d ((n.val S).cells.map nz))).length (vs.take (j*k+d)++(a.eval z).cells.toList++vs.drop (j*k+d+i.size)):=by
         refine⟨by simp[hvl,hs];omega,.inr ⟨g,cap,_,by rw[D];simp,hb1,qaw w g l _ e0 _ W,by simpa using V,hcm,by simp[hcs,hs];omega,?_⟩⟩
         simp only[qaZ];rw[<-F];simpa using Eh l.toList (a.eval z).cells.toList (j*k+d) i.size (es.length*k) (by simpa using hs) O (by simp[hcs];omega)
        obtain⟨h2,p,X⟩:=h.nM (w':=w.setRow g (l.toList.take (j*k+d)++(a.eval z).cells.toList++l.toList.drop (j*k+d+i.size)).toArray) hN ⟨ab,.row e0 k (es.set j (eF c d ((n.val S).cells.map nz)))⟩ (L id) (.inl ⟨m.symm,rfl,by rw[A];rfl⟩) rfl rfl rfl t_
         (λq hq H=>qbj w g q _ (λek=>H (by rw[A];rfl) (by rw[D,ek];rfl)))
         (λq _ hq=> .inl ⟨by rw[A];rfl,hq⟩)
         (λp X=>⟨_,U,hk2,by
          rw[hfl];have:=(hr.eF K (j*k+d)).mono p X
          simpa[hs]using this⟩)
        exact⟨_,_,_,undef,s,.inr ⟨rfl,rfl⟩,.undef,h2⟩
       .cases f
      .cases f
     .cases f
    .cases f
   .cases f
  .cases f
 .cases f
end
end
section
open Go.RowKit
section
variable{P:Pr}{E:En}{S:St}{a:Act}{w:Wo}{L:Nat->Va}{o:Oper}{x:PV}{wr:Y (Nat×dg)}{Γ:gW}{nid:Nat}
def wR(h:Rel E S a w L){y:Y Od}{c:Y aQ}(f:y.mapM aM=some c){d n:Int}(b:mW S c d=some n):
  (y=none/\n=d)\/∃z k,y=some z/\a.eval z= .int k n:=by
 cases y with
 |none=>grind [mW]
 |some z=>
  simp[Option.mapM_some,Option.map_eq_map,Qh]at f;obtain⟨i,g,rfl⟩:=f;have r:=h.dK g;simp[mW]at b;split at b
  .rename_i k m e;rw[e]at r;injection b with b
   subst b;exact .inr ⟨z,k,rfl,r.dE⟩
  .cases b
theorem oa{α:Type}(k:Nat):∀(m:Nat) (fs:Z (Z α)),(∀u∈fs,u.length=k)->(fs.take m).flatten=fs.flatten.take (m*k)
 |0,fs,_|m+1,[],_=>t_
 |m+1,u::us,b=>by
  have c:u.length=k:=b u t_;simp[List.take_succ_cons,List.flatten_cons,oa k m us (λq d=>b q (by simp[d]))]
  rw[QJ,qax,qaq,<-c,List.take_length_add_append]
theorem se{α:Type}(k:Nat):∀(m:Nat) (fs:Z (Z α)),(∀u∈fs,u.length=k)->(fs.drop m).flatten=fs.flatten.drop (m*k)
 |0,fs,_|m+1,[],_=>t_
 |m+1,u::us,b=>by
  have c:u.length=k:=b u t_;simp[List.drop_succ_cons,List.flatten_cons,se k m us (λq d=>b q (by simp[d]))]
  rw[QJ,qax,qaq,<-c,List.drop_length_add_append]
def Di{t e:TI}{y:Od}{lo hi:Y Od}{i:TypeInfo}{ad:Y Addr}{n c:Nat}{l h:Int}(q:o.op= .slice t y lo hi none)(g:P.underlying t=some (.slice e))(j:P.info? e=some i)
  (p:a.eval y= .slice ad n c) (b:(lo=none/\l=0)\/∃z k,lo=some z/\a.eval z= .int k l) (d:(hi=none/\h=n)\/∃z k,hi=some z/\a.eval z= .int k h) (A:0<=l) (u:l<=h) (s:h<=n) (r:n<=c):
  (execOp a.eval o).run P w= .ok (.value (.slice (if c=l.toNat then ad else ad.map (·.add (l.toNat*i.size))) (h.toNat - l.toNat) (c - l.toNat))) w:=by
 have F:0<=h:=O;have D:h<=(c:Int):=O;have B:l<=((h.toNat:Nat):Int):=O
 rcases b with⟨rfl,rfl⟩|⟨z,k,rfl,m⟩<;>rcases d with⟨rfl,rfl⟩|⟨z2,k2,rfl,f⟩<;>
  simp[execOp,Instr.sliceAt,Instr.slice,Qo g,Instr.sliceBounds,Instr.sliceBound,asIntOf,sizeOf,typeInfo, *]<;>omega
def Vn(h:Rel E S a w L){t e:TI}{y:Od}{lo hi:Y Od}{y':aQ}{X hi':Y aQ}{i:TypeInfo}(ho:o.op= .slice t y lo hi none)(ht:P.underlying t=some (.slice e))(J:P.info? e=some i)
  (hy:aM y=some y') (T:lo.mapM aM=some X) (U:hi.mapM aM=some hi') (b:exec Γ nid S (.B2 i.size y' X hi')=some (x,wr)):Good P E S a w o x wr:=by
 have r:=h.dK hy;simp only[exec]at b;split at b
 .rename_i es e0;rw[e0]at r;split at b
  .rename_i hall;have V:∀u∈es,u.length=i.size:=λu I=>by have:=Qe.1 hall u I;simpa using this
   split at b
   .rename_i l D el eh;split at b
    .rename_i hb
     let⟨B,A,z⟩:=hb
     obtain⟨rfl,rfl⟩:=bl b;have W:=wR h T (d:=0) (n:=l) (by unfold mW;exact el)
     have s:=wR h U (d:=(es.length:Int)) (n:=D) (by unfold mW;exact eh)
     have F:((es.take D.toNat).drop l.toNat).length=D.toNat - l.toNat:=o_;rcases r.wZ with⟨N,Q⟩|⟨ad,c,k,vs,N,hk,hr,hc,hn,hm⟩
     .subst Q;refine Good.pure h (Di (n:=0) ho ht J N W (by simpa using s) B A (by simpa using z) (Ql _)) ?_
      grind
     .refine Good.pure h (Di ho ht J N W s B A z hn) ?_;rw[<-F];have H:∀u∈(es.take D.toNat).drop l.toNat,u.length=i.size:=λu I=>V u (qbc (qbd I))
      have hfl:((es.take D.toNat).drop l.toNat).flatten=(es.flatten.take (D.toNat*i.size)).drop (l.toNat*i.size):=by
       have t1:∀(m:Nat) (fs:Z (Z PV)),(∀u∈fs,u.length=i.size)->(fs.take m).flatten=fs.flatten.take (m*i.size):=by
        intro m
        induction m with
        |zero=>intro fs _;simp
        |succ m ih=>
         intro fs hf
         cases fs with
         |nil=>simp
         |cons u us=>
          have I:u.length=i.size:=hf u t_;simp[List.take_succ_cons,List.flatten_cons,ih us (λq hq=>hf q (by simp[hq]))]
          rw[QJ,qax,qaq,<-I,List.take_length_add_append]
       have t2:∀(m:Nat) (fs:Z (Z PV)),(∀u∈fs,u.length=i.size)->(fs.drop m).flatten=fs.flatten.drop (m*i.size):=by
        intro m
        induction m with
        |zero=>intro fs _;simp
        |succ m ih=>
         intro fs hf
         cases fs with
         |nil=>simp
         |cons u us=>
          have I:u.length=i.size:=hf u t_;simp[List.drop_succ_cons,List.flatten_cons,ih us (λq hq=>hf q (by simp[hq]))]
          rw[QJ,qax,qaq,<-I,List.drop_length_add_append]
       grind
      have R:=(hr.take (D.toNat*i.size)).drop (l.toNat*i.size);rw[<-hfl]at R
      by_cases hcl:c=l.toNat
      .have hnil:(es.take D.toNat).drop l.toNat=[]:=qah (by rw[F];omega)
       rw[Qc hcl,hnil];exact .sl [] ad _ i.size [] t_ t_ (λj u I=>by simp at I) (λj p u hp=>by simp at hp) (Q7 _) O
      .rw[Qg hcl];simp only[Qn];refine .sl _ _ _ i.size _ H R.1 (λj u I=> ?_) R.2 (by rw[F];omega) O
       grind [add_add,C1,ed]
    .cases b
   .cases b
  .cases b
 .rename_i id ab e0;rw[e0]at r;split at b
  .rename_i f;split at b
   .rename_i e1 k' es hcc;split at b
    .rename_i H;subst H;split at b
     .rename_i l D el eh;split at b
      .rename_i hb
       let⟨B,A,z⟩:=hb
       obtain⟨rfl,rfl⟩:=bl b
       let⟨hN,N⟩:=r.iy (show(S.gh L).V id=ab from f)
       let⟨vs,hown,hk,hr⟩:=h.gd hN hcc
       have W:=wR h T (d:=0) (n:=l) el;have s:=wR h U (d:=(es.length:Int)) (n:=D) eh
       have K:∃ad c,L id= .slice ad es.length c/\es.length<=c:=by
        rcases hown.2 with⟨K,Q⟩|⟨g,cap,cur,K,_,_,hnc,_⟩
        .grind
        .exact⟨_,cap,K,hnc⟩
       let⟨ad,c,K,hc⟩:=K
       rw[show(S.gh L).L id=L id from rfl,K]at N
       refine Good.pure h (Di ho ht J N W s B A z hc) ?_;refine .view _ _ _ _ _ _ _ hN (qap f.symm) (λ_=>⟨ad,es.length,c,K,O,hc,rfl,?_⟩)
       by_cases Q:c=l.toNat
       .rw[Qc Q]
        by_cases h1:l.toNat=0
        .right;rw[h1];cases ad<;>simp[Addr.add]
        .left;exact⟨O,h1,λe=>e⟩
       .rw[Qg Q];right;rfl
      .cases b
     .cases b
    .cases b
   .cases b
  .cases b
 .rename_i id ab k0 lo0 n0 e0;rw[e0]at r;split at b
  .rename_i f;split at b
   .rename_i e1 k' es hcc;split at b
    .rename_i H
     let⟨hk1,hk2⟩:=H
     subst hk2;split at b
     .rename_i l D el eh;split at b
      .rename_i hb
       let⟨B,A,z⟩:=hb
       obtain⟨rfl,rfl⟩:=bl b
       let⟨hN,ad,c,N,a0,m0,c0,K,q1,q2,q3,q4⟩:=r.te (show(S.gh L).V id=ab from f)
       have W:=wR h T (d:=0) (n:=l) el;have s:=wR h U (d:=(n0:Int)) (n:=D) eh;refine Good.pure h (Di ho ht J N W s B A z O) ?_;refine .view _ _ _ _ _ _ _ hN (qap f.symm) (λ_=>⟨a0,m0,c0,K,O,q2,O,?_⟩)
       by_cases Q:c=l.toNat
       .rw[Qc Q]
        by_cases h1:lo0+l.toNat=0
        .grind
        .left;refine⟨O,h1,λe=> ?_⟩
         rcases q4 with q4|q4
         .exact q4.2.2 e
         .rw[q4]at e;cases a0<;>first|rfl|cases e
       .rw[Qg Q];rcases q4 with q4|q4
        .left;refine⟨O,O,λe=>q4.2.2 ?_⟩
         cases ad<;>first|rfl|cases e
        .right;rw[q4];cases a0<;>simp[add_add,QJ]
      .cases b
     .cases b
    .cases b
   .cases b
  .cases b
 .cases b
def DJ{base:Nat}{t ty e:TI}{i:TypeInfo}{size:Nat}(f:P.underlying t=some (.slice e))(hi:P.info? e=some i)
  {v:Va} {n:Nat} {xs:Z Va} (b:w.ownsRow base e size v n xs) (c:Nat):(Builtin.append_ #[t,t] ty #[v,.slice none 0 c]).run P w= .ok v w:=by
 rcases b.2 with⟨rfl,rfl⟩|⟨g,cap,h,rfl,_,_,d,_⟩
 .simp[Builtin.append_,Qo f,sizeOf,typeInfo,hi,Builtin.lenOf,Builtin.firstCells]
 .simp[Builtin.append_,Qo f,sizeOf,typeInfo,hi,Builtin.lenOf,Builtin.firstCells,d,storeCells]
def Rel.Es(h:Rel E S a w L){y:PV}{v:Va}{es:Z (Z PV)}(r:aJ w (aI E S L) (S.gh L) y v)(b:gM S y=some es):
  (v= .slice none 0 0/\es=[])\/∃(ad:Addr) (c:Nat) (vs:Z Va),v= .slice (some ad) es.length c/\aK w (aI E S L) (S.gh L) es.flatten vs/\(∀(i:Nat) (u:Va),vs[i]?=some u->w.cell? (ad.add i)=some u):=by
 unfold gM at b;split at b
 .cases b;exact .inl ⟨r.ml,rfl⟩
 .cases b;rcases r.wZ with⟨j,B⟩|⟨ad,c,k,vs,j,hk,q,p,_⟩
  .exact .inl ⟨j,B⟩
  .exact .inr ⟨ad,c,vs,j,q.mono (bN.of λ_ R=>R) (cn.le _),λi u D=>(p i u D).1⟩
 .rename_i id ab;split at b
  .rename_i e;split at b
   .rename_i p;cases b
    let⟨A,j⟩:=r.iy (show(S.gh L).V id=ab from e)
    let⟨vs,d,hk,q⟩:=h.gd A p
    rcases d.2 with⟨f,B⟩|⟨g,cap,J,f,_,T,_,_,_,l⟩
    .exact .inl ⟨by rw[j];exact f,qah B⟩
    .refine .inr ⟨⟨g,0,none⟩,cap,vs,by rw[j];exact f,q,λi u D=> ?_⟩
     exact d.cells (g:=g) (by rw[f];rfl) i u D
   .cases b
  .cases b
 .rename_i id ab k lo n;split at b
  .rename_i e;split at b
   .rename_i Q z m p;split at b
    .rename_i N;subst N;cases b
     let⟨A,ad,c,j,s⟩:=r.te (show(S.gh L).V id=ab from e)
     have N:=h.Df A p s
     let⟨a0,m0,c0,f,q1,q2,q3,q4⟩:=s
     let⟨vs,d,hk,q⟩:=h.gd A p
     have f:L id= .slice a0 m0 c0:=f;have K:((m.drop lo).take n).length=n:=o_;rcases d.2 with⟨t,B⟩|⟨g,cap,J,t,_,T,_,_,_,l⟩
     .grind
     .rw[t]at f;injection f with Q V U
      subst Q V U
      have I:((m.drop lo).take n).flatten=(m.flatten.drop (lo*z)).take (n*z):=by grind [oa,se]
      have F:=(q.drop (lo*z)).take (n*z);rw[<-I]at F
      by_cases H:n=0
      .subst H
       cases ad with
       |none|some ad=>grind
      .grind [add_mid,kH,ed]
    .cases b
   .cases b
  .cases b
 .cases b
def ib{v:Va}{ad:Y Addr}{n c:Nat}(h:v= .slice ad n c):v.ownBlock=bp v:=by subst h;cases ad<;>rfl
def xx{P:Pr}(w:Wo)(base:Nat)(t ty e:TI)(i:TypeInfo)(z:Va)(size p:Nat)(D:P.underlying t=some (.slice e))(hi:P.info? e=some i)(N:i.zero=some z)
  (r:i.size=size) (J:i.bytes=p) (R:0<size)
  (v:Va) (n:Nat) (xs:Z Va) (l:w.ownsRow base e size v n xs)
  (a:Addr) (m c:Nat) (b:Z Va) (y:b.length=m*size) (d:∀j u,b[j]?=some u->w.cell? (a.add j)=some u) (h1:∀u∈b,u.oneCell'=true)
  (K:n+m<=maxLen) (f:(n+m)*p<=140737488355328) {v':Va} {w':Wo} (Q:(Builtin.append_ #[t,t] ty #[v,.slice (some a) m c]).run P w= .ok v' w'):w.drawn<=w'.drawn:=by
 subst r;subst J;have F:n+m<=9223372036854775807:=by simp[maxLen]at K;omega
 have q:∀{u:Va} {W:Wo},(Builtin.append_ #[t,t] ty #[v,.slice (some a) m c]).run P w= .ok u W->w.drawn<=W.drawn->w.drawn<=w'.drawn:=λh hd=>by grind
 rcases l.2 with⟨rfl,rfl⟩|⟨g,cap,B,rfl,hbg,V,T,X,I,H⟩
 .by_cases U:m=0
  .subst U;have hn:b=[]:=qah (by simpa using y)
   refine q (u:= .slice none 0 0) (W:=w) ?_ (Ql _);simp[Builtin.append_,Qo D,sizeOf,typeInfo,hi,Builtin.lenOf,Builtin.firstCells,loadCells,loadCellsFrom]
  .exact q (run_append_nil (P:=P) w t ty e i z D hi N a m c b y d O O (by have hb:=f;simp[qai]at hb;omega)) (qan _)
 .by_cases k:n+m<=cap
  .have A:n*i.size+b.length<=B.size:=by rw[y,I,<-QJ];exact QT _ k
   exact q (run_append_room (P:=P) w t ty e i D hi g n cap B V a m c b y d h1 k A) (Ql _)
  .have s:∀j u,xs[j]?=some u->w.cell? ((⟨g,0,none⟩:Addr).add j)=some u:=l.cells (g:=g) rfl;exact q (run_append_grow (P:=P) w t ty e i z D hi N ⟨g,0,none⟩ n cap xs l.1 s a m c b y d O O (growslice_fits O f)) (qan _)
def PO(h:Rel E S a w L)(hn:nid<S.N){t e:TI}{y z:Od}{y' z':aQ}{i:TypeInfo}{zv:Va}(ho:o.op= .call {callee:= .builtin .append,args:=#[y,z],argTypes:=#[t,t]})(ht:P.underlying t=some (.slice e))(hi:P.info? e=some i)
  (hzv:i.zero=some zv) (hzs:zv.cells.size=i.size) (hsz:0<i.size) (hy:aM y=some y') (hz:aM z=some z') (p:exec Γ nid S (.bA false e i.size i.bytes y' z')=some (x,wr)):Good P E S a w o x wr:=by
 have ry:=h.dK hy;have rz:=h.dK hz
 have hexec:∀(r:Result Va),(Builtin.append_ #[t,t] o.type #[a.eval y,a.eval z]).run P w=r->(execOp a.eval o).run P w=r.andThen λv w'=> .ok (.value v) w':=by intro r T;simp[execOp,ho,resolve,invoke,builtin,T]
 simp only[exec,C3]at p;split at p
 .rename_i d X;split at p
  .rename_i hall;have A:∀u∈d,u.length=i.size/\u.all PV.one=true:=λu H=>by have:=Qe.1 hall u H;simpa using this
   have hnl:d.flatten.length=d.length*i.size:=hU d i.size (λu H=>(A u H).1)
   have U:∀{vs:Z Va},aK w (aI E S L) (S.gh L) d.flatten vs->∀u∈vs,u.oneCell'=true:=by
    intro vs T u H;obtain⟨q,hq,rfl⟩:=List.mem_iff_getElem.1 H;have hx:q<d.flatten.length:=by rw[<-T.1];exact hq
    have hm:d.flatten[q]∈d.flatten:=qam hx
    let⟨el,hel,hmem⟩:=List.mem_flatten.1 hm
    exact((T.2 q _ _ (Qt hx) (Qt hq)).one (Qe.1 (A el hel).2 _ hmem)).1
   have R:∀(s:Nat) (hid:s<S.N) (es:Z (Z PV)) (m:Nat) (v:Va) (vs:Z Va),a.eval y=v->w.ownsRow (dQ E v) e i.size v es.length vs->aK w (aI E S L) (S.gh L) es.flatten vs->
     (∀u∈es,u.length=i.size)->(S.H s).ab<m->(∀b,v.ownBlock=some b->(S.H s).c.live=true/\bp (L s)=some b)->es.length+d.length<=maxLen->(es.length+d.length)*i.bytes<=140737488355328->
     Good P E S a w o (.own s m) (some (s,⟨m,.row e i.size (es++d)⟩)):=by
    intro s hid es m v vs hv k T hk F V B N
    have hk2:∀u∈es++d,u.length=i.size:=λu H=>by
     rcases Qu.1 H with H|H
     .exact hk u H
     .exact(A u H).1
    have hrun:∃v' w' us,(Builtin.append_ #[t,t] o.type #[a.eval y,a.eval z]).run P w= .ok v' w'/\w'.ownsRow (dQ E v) e i.size v' (es.length+d.length) (vs++us)/\w.grownBy w' v.ownBlock/\
      (v'.ownBlock=v.ownBlock\/v'.ownBlock=some w.heap.size)/\aK w (aI E S L) (S.gh L) d.flatten us/\w.drawn<=w'.drawn:=by
     rcases h.Es rz X with⟨W,I⟩|⟨ad,c,us,W,K,hcz⟩
     .subst I;refine⟨v,w,[],by rw[hv,W];exact DJ ht hi k 0,by simpa using k,World.grownBy.refl w _,.inl rfl,aK.nil,Ql _⟩
     .have hus:us.length=d.length*i.size:=by rw[K.1,hnl]
      let⟨v',w',h1,h2,h3,_,h5⟩:=qbk (P:=P) w (dQ E v) t o.type e i zv i.size i.bytes ht hi hzv rfl rfl hzs hsz v es.length vs k ad d.length c us hus hcz (U K) B N (QS (FK E v) h.fr.size)
      exact⟨v',w',us,by rw[hv,W];exact h1,h2,h3,h5,K,xx w (dQ E v) t o.type e i zv i.size i.bytes ht hi hzv rfl rfl hsz v es.length vs k ad d.length c us hus hcz (U K) B N h1⟩
    let⟨v',w',us,hr1,f,J,j,hru,hdrw⟩:=hrun
    have D:∃ad n c,v'= .slice ad n c:=by
     rcases f.2 with⟨rfl,_⟩|⟨g,cap,Q,rfl,_⟩
     .exact⟨_,_,_,rfl⟩
     .exact⟨_,_,_,rfl⟩
    let⟨ad',n',c',D⟩:=D
    have hvb:∃ad n c,v= .slice ad n c:=by
     rcases k.2 with⟨rfl,_⟩|⟨g,cap,Q,rfl,_⟩
     .exact⟨_,_,_,rfl⟩
     .exact⟨_,_,_,rfl⟩
    let⟨ad0,n0,c0,hv0⟩:=hvb
    have f:w'.ownsRow (dQ E v') e i.size v' (es.length+d.length) (vs++us):=by
     rcases j with j|j
     .rw[vn (v:=v') (v':=v) (by rw[<-ib D,<-ib hv0,j])]
      exact f
     .refine⟨f.1,?_⟩;rcases f.2 with I|⟨g,cap,Q,e1,e2,e3⟩
      .exact .inl I
      .rw[ib D]at j;have hg:g=w.heap.size:=by rw[e1]at j;simpa[bp]using j
       refine .inr ⟨g,cap,Q,e1,?_,e3⟩;rw[Ei j h.fr.size,hg];exact h.fr.size
    let⟨h2,hs2,hg2⟩:=h.nM (w':=w') (hdr:=DL.of hdrw) hid ⟨m,.row e i.size (es++d)⟩ v' (.inr F) J.os J.tape J.output J.size
     (λb l hne=>J.block b l (λeb=>by
      let⟨q1,q2⟩:=V b eb.symm
      exact hne q1 q2))
     (λb _ l=>by
      rw[<-ib D]at l;rcases j with j|j
      .rw[j]at l;exact .inl (V b l)
      .rw[j]at l;injection l with l
       exact .inr O)
     (λhs2 hg2=>⟨vs++us,by simpa using f,hk2,by simp[List.flatten_append];exact(T.append hru).mono hs2 hg2⟩)
    refine⟨_,w',_,v',by rw[hexec _ hr1];rfl,.inl rfl,?_,h2⟩
    subst D;exact .own _ _ _ _ _ hid (by simp[St.gh,St.c7,bf]) (λ_=>by simp[St.gh,St.c7,bf])
   split at p
   .rename_i ey;rw[ey]at ry;split at p
    .rename_i l;obtain⟨rfl,rfl⟩:=bl p;have:=R nid hn [] ((S.H nid).ab+1) (.slice none 0 0) [] ry.ml (World.ownsRow_nil w _ _ _) aK.nil t_ (Q9 _) (λb l=>by simp[Value.ownBlock]at l) (by simpa using l.2) (by simpa using l.1)
     simpa using this
    .cases p
   .rename_i id ab ey;rw[ey]at ry;split at p
    .rename_i F;split at p
     .rename_i e' k' es hc;split at p
      .rename_i l;obtain⟨rfl,rfl,N,B⟩:=l;obtain⟨rfl,rfl⟩:=bl p
       let⟨hN,hv⟩:=ry.iy (show(S.gh L).V id=ab from F)
       let⟨vs,k,hk,T⟩:=h.gd hN hc
       have hLs:∃ad n c,L id= .slice ad n c:=by
        rcases k.2 with⟨hL,_⟩|⟨g,cap,Q,hL,_⟩
        .exact⟨_,_,_,hL⟩
        .exact⟨_,_,_,hL⟩
       let⟨ad0,n0,c0,hL0⟩:=hLs
       exact R id hN es (ab+1) (L id) vs hv k T hk O (λb l=>⟨by rw[hc];rfl,by rw[ib hL0]at l;exact l⟩) B N
      .cases p
     .cases p
    .cases p
   .cases p
  .cases p
 .cases p
def Ho(z:Array Va)(n:Nat):(Builtin.zeroCells z n).toList=(replicate n z.toList).flatten:=by
 unfold Builtin.zeroCells
 by_cases b:0<z.size
 .exact Cl z b n
 .have c:z.size=0:=O;have b:z=#[]:=qa1 c;subst b;simp
def Sl(h:Rel E S a w L){t e:TI}{y:Od}{y':aQ}{i:TypeInfo}{d:Z PV}(ho:o.op= .call {callee:= .builtin .clear,args:=#[y],argTypes:=#[t]})(ht:P.underlying t=some (.slice e))(hi:P.info? e=some i)
  (hz:oD P e=some d) (hy:aM y=some y') (z:exec Γ nid S (.clear i.size d y')=some (x,wr)):Good P E S a w o x wr:=by
 have r:=h.dK hy;simp only[exec]at z;split at z
 case h_2=>cases z
 rename_i id ab k0 lo n e0;rw[e0]at r;split at z
 case isFalse=>cases z
 rename_i f;split at z
 case h_2=>cases z
 rename_i e1 k' es N;split at z
 case isFalse=>cases z
 rename_i hb;obtain⟨hk1,hk2,hk3,U⟩:=hb;subst hk2;subst hk1;obtain⟨rfl,rfl⟩:=bl z;obtain⟨hN,ad,c,hv,X⟩:=r.te (show(S.gh L).V id=ab from f)
 have V:=h.Df hN N X;obtain⟨a0,m0,c0,hL,q1,q2,q3,q4⟩:=X;have hL:L id= .slice a0 m0 c0:=hL;obtain⟨vs,s,hk,hr⟩:=h.gd hN N;obtain⟨i',v,B,hv0,hs,I⟩:=wV (P:=P) (w:=w) (M:=aI E S L) (G:=S.gh L) hz;rw[hi]at B;injection B with B
 subst B
 have hkz:∀u∈es.take lo++replicate n (d.map nz)++es.drop (lo+n),u.length=i.size:=by grind
 have hlz:(es.take lo++replicate n (d.map nz)++es.drop (lo+n)).length=es.length:=o_
 have hfl:(es.take lo++replicate n (d.map nz)++es.drop (lo+n)).flatten=es.flatten.take (lo*i.size)++(replicate n (d.map nz)).flatten++es.flatten.drop (lo*i.size+n*i.size):=by rw[List.flatten_append,List.flatten_append,oa i.size lo es hk,se i.size (lo+n) es hk,QJ]
 have hrn:aK w (aI E S L) (S.gh L) (replicate n (d.map nz)).flatten (replicate n v.cells.toList).flatten:=qa I.nz n;have A:(replicate n v.cells.toList).flatten.length=n*i.size:=by rw[hU _ i.size (λu hu=>by rw[(List.mem_replicate.1 hu).2];simpa using hs)];simp
 by_cases hn0:n=0
 .subst hn0;have H:es.take lo++replicate 0 (d.map nz)++es.drop (lo+0)=es:=t_;rw[H]
  obtain⟨h2,k,W⟩:=h.nM (w':=w) hN ⟨ab,.row e1 i.size es⟩ (L id) (.inl ⟨f.symm,rfl,by rw[N];rfl⟩) rfl rfl rfl (Ql _)
   (λq F _=>rfl) (λq _ F=> .inl ⟨by rw[N];rfl,F⟩) (λk W=>⟨vs,s,hk,hr.mono k W⟩)
  refine⟨_,w,_,.tuple #[],?_,.inl rfl,.cg [] [] rfl (λj p u hp=>by simp at hp),h2⟩
  cases ad<;>simp[execOp,ho,resolve,invoke,builtin,Builtin.clear_,Qo ht,hv]
 .rcases s.2 with⟨D,h0⟩|⟨g,cap,b,D,hb1,hh,hnc,hcm,K,htake⟩
  .omega
  rw[D]at hL;injection hL with e2 e3 e4
  subst e2 e3 e4;rcases q4 with q4|q4
  .omega
  have J:∀u∈(replicate n v.cells.toList).flatten,u.oneCell'=true:=by
   intro u hu;obtain⟨l,hl,Q⟩:=List.mem_flatten.1 hu;rw[(List.mem_replicate.1 hl).2]at Q;obtain⟨q,F,rfl⟩:=List.mem_iff_getElem.1 Q;have hx:q<d.length:=by rw[<-I.1];exact F
   exact((I.2 q _ _ (Qt hx) (Qt F)).one (Qe.1 U _ (qam hx))).1
  have hcl:lo*i.size+n*i.size<=b.size:=by rw[K,<-QJ];exact QT _ O
  have R:=qbi (P:=P) g (lo*i.size) e1 (replicate n v.cells.toList).flatten 0 b w hh (by rw[A];omega) J
  simp only[qbh,A]at R;have hz0:(Builtin.zeroCells v.cells n).toList=(replicate n v.cells.toList).flatten:=Ho _ _
  have T:(w.setRow g (b.toList.take (lo*i.size)++(replicate n v.cells.toList).flatten++b.toList.drop (lo*i.size+n*i.size)).toArray).ownsRow (dQ E (L id)) e1 i.size (L id) (es.take lo++replicate n (d.map nz)++es.drop (lo+n)).length (vs.take (lo*i.size)++(replicate n v.cells.toList).flatten++vs.drop (lo*i.size+n*i.size)):=by
   have hvl:vs.length=es.length*i.size:=s.1;have hle:lo*i.size+n*i.size<=es.length*i.size:=by rw[<-QJ];exact QT _ V
   rw[hlz]
   refine⟨by simp only[QY,List.length_take,List.length_drop,A,hvl];omega,.inr ⟨g,cap,_,D,hb1,qaw w g b _ e1 _ hh,hnc,hcm,by
    rw[K]at hcl;simp only[List.size_toArray,QY,List.length_take,List.length_drop,Q0,A,K]
    omega,?_⟩⟩
   grind [Eh]
  obtain⟨h2,k,W⟩:=h.nM (w':=w.setRow g (b.toList.take (lo*i.size)++(replicate n v.cells.toList).flatten++b.toList.drop (lo*i.size+n*i.size)).toArray) hN
   ⟨ab,.row e1 i.size (es.take lo++replicate n (d.map nz)++es.drop (lo+n))⟩ (L id) (.inl ⟨f.symm,rfl,by rw[N];rfl⟩) rfl rfl rfl t_
   (λq F hne=>qbj w g q _ (λek=>hne (by rw[N];rfl) (by rw[D,ek];rfl)))
   (λq _ F=> .inl ⟨by rw[N];rfl,F⟩)
   (λk W=>⟨_,T,hkz,by
    rw[hfl];have h5:=(((hr.take (lo*i.size)).append hrn).append (hr.drop (lo*i.size+n*i.size))).mono k W
    exact h5⟩)
  refine⟨_,_,_,.tuple #[],?_,.inl rfl,.cg [] [] rfl (λj p u hp=>by simp at hp),h2⟩
  have hv':a.eval y= .slice (some ⟨g,lo*i.size,none⟩) n c:=by rw[hv,q4];simp[add_mid]
  have hnn:∃m,n=m+1:=⟨n - 1,O⟩;obtain⟨m,rfl⟩:=hnn;simp[execOp,ho,resolve,invoke,builtin,Builtin.clear_,Qo ht,hv',zeroValue,typeInfo,hi,hv0,hz0,R]
def pZ{P:Pr}(w:Wo)(s u ty b:TI)(g o e l:Nat)(a:Addr)(d f:Nat)(c:Array Va)(t:TI)(cs:Z Va)(size n:Nat)
  (y:P.underlying s=some (.slice b)) (hs:(P.info? b).map (·.size)=some size)
  (A:w.heap[g]?=some (.cells c t (0,0))) (z:n=Nat.min d e) (q:cs.length=n*size)
  (h:∀(j:Nat) (v:Va),cs[j]?=some v->w.cell? (a.add j)=some v) (k:o+cs.length<=c.size) (B:∀v∈cs,v.oneCell'=true):
  (Builtin.copy_ #[s,u] ty #[.slice (some ⟨g,o,none⟩) e l,.slice (some a) d f]).run P w=
   .ok (goInt n) (w.setRow g (c.toList.take o++cs++c.toList.drop (o+cs.length)).toArray):=by
 have r:=run_loadCells_list (P:=P) w a cs h;have m:=qbi P g o t cs 0 c w A (by simpa using k) B
 rw[q]at r
 cases p:P.info? b with
 |none=>simp[p]at hs
 |some i=>
  have hi:i.size=size:=by simpa[p]using hs
  simp[Builtin.copy_,Qo y,Builtin.lenOf,Builtin.firstCells,sizeOf,typeInfo,p,hi,<-z,r,m]
def LC(h:Rel E S a w L){neg:Bool}{t t2 e:TI}{y:Od}{j:aQ}(i:o.op= .binOp (if neg then .neq else .eql) t y (.const (.slice none 0 0)) t2)(q:P.underlying t=some (.slice e))(p:aM y=some j)
  (f:exec Γ nid S (.rZ neg j)=some (x,wr)):Good P E S a w o x wr:=by
 have r:=h.dK p
 have b:∀(ad:Y Addr) (n c:Nat),a.eval y= .slice ad n c->(execOp a.eval o).run P w= .ok (.value (.bool (xor neg ad.isNone))) w:=by
  intro ad n c g;have m:a.eval (.const (.slice none 0 0))= .slice none 0 0:=rfl;have k:=run_equal_slice_nil (P:=P) w t e ad n c q;have l:∀op,(eqGuard op t y (.const (.slice none 0 0)) (.slice ad n c) (.slice none 0 0)).run P w= .ok () w:=by intro op;cases op<;>simp[eqGuard]
  cases neg
  .simp[QR,QE]at i;simp only[execOp,i,g,m,Qs,l,QK,binOp,k,QP];simp
  .simp[Qp]at i;simp only[execOp,i,g,m,Qs,l,QK,binOp,k,QP];simp
 simp[exec]at f;split at f
 .rename_i z;rw[z]at r;obtain⟨rfl,rfl⟩:=bl f;exact Good.pure h (b none 0 0 r.ml) (by cases neg<;>exact .bool _)
 .split at f
  .rename_i d;obtain⟨rfl,rfl⟩:=bl f
   let⟨ad,c,g⟩:=h.J9 r d
   exact Good.pure h (b ad _ c g) (.dI _)
  .rename_i u us d;obtain⟨rfl,rfl⟩:=bl f;rcases h.Es r d with⟨_,s⟩|⟨ad,c,vs,g,_⟩
   .cases s
   .exact Good.pure h (b (some ad) _ c g) (by cases neg<;>exact .bool _)
  .cases f
end
end
section
open Go.RowKit
section
variable{P:Pr}{E:En}{S:St}{a:Act}{w:Wo}{L:Nat->Va}{o:Oper}{x:PV}{wr:Y (Nat×dg)}{Γ:gW}{nid:Nat}
def LX{t:TI}{fs:Array Field}{f g:Field}{r k:IntKind}{p q:Int}{s u:C}(y:P.underlying t=some (.struct fs))(m:fs.toList=[f,g])(A:P.underlying f.type=some (.int r))(z:P.underlying g.type=some .string)
  (B:f.offset=0) (D:g.offset=1) (c:f.name≠ "_") (j:g.name≠ "_") (i:P.stoodInHeld t=false) (d:Nat):
  (Op.equalIn (d+2) t (.agg #[.int k p,.string s]) (.agg #[.int k q,.string u])).run P w= .ok (decide (p=q)&&decide (s=u)) w:=by
 have e:P.fieldsOf t=fs:=by simp[Program.fieldsOf,y]
 have l:(isAgg f.type).run P w= .ok false w:=by simp[isAgg,Qo A]
 have hi1:(isAgg g.type).run P w= .ok false w:=by simp[isAgg,Qo z]
 have n:∀v u:Va,(part f.type #[v,u] 0).run P w= .ok v w:=λv u=>by simp[part,l]
 have p1:∀v u:Va,(part g.type #[v,u] 1).run P w= .ok u w:=λv u=>by simp[part,hi1]
 rw[run_equalIn_struct w (d+1) t _ _ (by rw[e];exact y) i,e,m]
 have q0:=run_equalIn_int (P:=P) w d f.type k r p q A;have q1:=run_equalIn_string (P:=P) w d g.type s u z;rw[toList_eq_iff]at q1
 by_cases b:p=q
 .subst b;simp[Op.eqFields,c,j,B,D,n,p1,q0,q1]
  by_cases h:s=u<;>simp[h]
 .have:(p==q)=false:=by simp[b]
  rw[this]at q0;simp[Op.eqFields,c,B,n,q0,b]
def PK(h:Rel E S a w L){neg:Bool}{y z:Od}{g f:aQ}{t t2:TI}(d:o.op= .binOp (if neg then .neq else .eql) t y z t2)(r:P.underlying t=some .bool)
  (n:aM y=some g) (m:aM z=some f) (e:exec Γ nid S (.Gy neg g f)=some (x,wr)):Good P E S a w o x wr:=by
 have j:=h.dK n;have i:=h.dK m;simp[exec]at e;split at e
 .rename_i p q A u;obtain⟨rfl,rfl⟩:=bl e;rw[A]at j;rw[u]at i;have k:=j.iK;have l:=i.iK;have s:(p==q)=decide (p=q):=by cases p<;>cases q<;>rfl
  have b:=run_equalIn_bool (P:=P) w 9999 t p q r;rw[s]at b;have c:∀op,(eqGuard op t y z (.bool p) (.bool q)).run P w= .ok () w:=by intro op;cases op<;>simp[eqGuard]
  refine Good.pure h (v:= .bool (xor neg (decide (p=q)))) ?_ (.bool _);cases neg
  .simp[QR,QE]at d;simp[execOp,d,k,l,Qs,c,QK,binOp,Op.equal,Op.maxDepth,QP];rw[b];simp
  .simp[Qp]at d;simp[execOp,d,k,l,Qs,c,QK,binOp,Op.equal,Op.maxDepth,QP];rw[b];simp
 .cases e
def PL(h:Rel E S a w L){neg:Bool}{y z:Od}{D B:aQ}{t t2:TI}{fs:Array Field}{f g:Field}{W:IntKind}(j:o.op= .binOp (if neg then .neq else .eql) t y z t2)(ht:P.underlying t=some (.struct fs))(A:fs.toList=[f,g])
  (hf:P.underlying f.type=some (.int W)) (hg:P.underlying g.type=some .string) (h0:f.offset=0) (h1:g.offset=1) (n:f.name≠ "_") (m:g.name≠ "_") (l:P.stoodInHeld t=false) (r:P.eqGuardType P.depth t=false)
  (hy:aM y=some D) (X:aM z=some B) (d:exec Γ nid S (.oe neg D B)=some (x,wr)):Good P E S a w o x wr:=by
 have H:=h.dK hy;have F:=h.dK X;simp[exec]at d;split at d
 .rename_i k p s k' q u e1 e2;split at d
  .rename_i hk;subst hk;obtain⟨rfl,rfl⟩:=bl d;rw[e1]at H;rw[e2]at F
   let⟨vs,I,e⟩:=H.lL
   let⟨us,hu,b⟩:=F.lL
   obtain⟨v1,K,rfl,V,e⟩:=e.cons_inv;obtain⟨v2,J,rfl,U,e⟩:=e.cons_inv;have:=e.lF;subst this;obtain⟨u1,Q,rfl,T,b⟩:=b.cons_inv;obtain⟨u2,N,rfl,R,b⟩:=b.cons_inv;have:=b.lF;subst this;have:=V.dE;subst this;have:=U.kh;subst this;have:=T.dE;subst this;have:=R.kh;subst this;have c:=LX (P:=P) (w:=w) (k:=k) (p:=p) (q:=q) (s:=s) (u:=u) ht A hf hg h0 h1 n m l 9998
   have i:∀op,(eqGuard op t y z (.agg [.int k p,.string s].toArray) (.agg [.int k q,.string u].toArray)).run P w= .ok () w:=by intro op;cases op<;>simp[eqGuard,program,Sem.run,r]
   refine Good.pure h (v:= .bool (xor neg (decide (p=q)&&decide (s=u)))) ?_ (.bool _);cases neg
   .simp[QR,QE]at j;simp[execOp,j,I,hu,Qs,i,QK,binOp,Op.equal,Op.maxDepth,QP];rw[c];simp
   .simp[Qp]at j;simp[execOp,j,I,hu,Qs,i,QK,binOp,Op.equal,Op.maxDepth,QP];rw[c];simp
  .cases d
 .cases d
def zr:∀(ks c:Z LK) (cs d:Z PV) (b:Bool),ic (ks++c) cs d=some b->
  ∃b1 e,ic ks (cs.take ks.length) (d.take ks.length)=some b1/\ic c (cs.drop ks.length) (d.drop ks.length)=some e/\b=(b1&&e)
 |[],c,cs,d,b,h=>⟨true,b,by simp[ic],by simpa using h,t_⟩
 |k::ks,c,cs,d,b,h=>by
  cases k<;>cases cs<;>cases d<;>simp[List.cons_append,ic]at h<;>try (cases h;done)
  all_goals rename_i x cs y d
  all_goals cases x<;>cases y<;>simp only[ic]at h<;>try (cases h;done)
  .split at h
   .rename_i i;simp only[Qh]at h;obtain⟨r,f,rfl⟩:=h;obtain⟨b1,e,h1,g,rfl⟩:=zr ks c cs d r f;refine⟨_,e,?_,g,(Bool.and_assoc _ _ _).symm⟩;simp[QW,List.take_succ_cons,ic,Qc i,h1,Qn]
   .cases h
  all_goals
   simp only[Qh]at h;obtain⟨r,f,rfl⟩:=h;obtain⟨b1,e,h1,g,rfl⟩:=zr ks c cs d r f;refine⟨_,e,?_,g,(Bool.and_assoc _ _ _).symm⟩;simp[QW,List.take_succ_cons,ic,h1,Qn]
def Fe:∀(ks:Z LK) (cs c:Z PV) (b:Bool),ic ks cs c=some b->cs.length=ks.length/\c.length=ks.length
 |[],cs,c,b,h=>by cases cs<;>cases c<;>simp[ic]at h<;>simp
 |k::ks,cs,c,b,h=>by
  cases k<;>cases cs<;>cases c<;>(try simp[ic]at h)<;>try (cases h;done)
  all_goals rename_i x cs y c
  all_goals cases x<;>cases y<;>simp only[ic]at h<;>try (cases h;done)
  .split at h
   .simp only[Qh]at h;obtain⟨r,d,rfl⟩:=h;have:=Fe ks cs c r d;simp[this.1,this.2]
   .cases h
  all_goals
   simp only[Qh]at h;obtain⟨r,d,rfl⟩:=h;have:=Fe ks cs c r d;simp[this.1,this.2]
def valOf(P:Pr)(t:TI)(vs:Z Va):Va:=
 match P.underlying t with
 |some (.struct _)=> .agg vs.toArray
 |_=>vs.headD undef
def Gz{d:Nat}{t:TI}{ks:Z LK}(h:tI P (d+1) t=some ks):
  (∃k,P.underlying t=some (.int k)/\ks=[.i])\/(P.underlying t=some .string/\ks=[.s])\/(P.underlying t=some .bool/\ks=[.b])\/∃fs,P.underlying t=some (.struct fs)/\P.stoodInHeld t=false/\HP P (tI P d) fs.toList 0=some ks:=by
 grind [tI]
def FF{t:TI}{d b:Nat}{ks:Z LK}{i:TypeInfo}{vs:Z Va}(h:tI P d t=some ks)(hi:P.info? t=some i)(m:i.size=ks.length)(j:b+ks.length<=vs.length):
  (part t vs.toArray b).run P w= .ok (valOf P t ((vs.drop b).take ks.length)) w:=by
 cases d with
 |zero=>simp[tI]at h
 |succ d=>
  have leaf:(∀fs,P.underlying t≠some (.struct fs))->(isAgg t).run P w= .ok false w->ks.length=1->(part t vs.toArray b).run P w= .ok (valOf P t ((vs.drop b).take ks.length)) w:=by
   intro l g n;have c:b<vs.length:=O
   have f:valOf P t ((vs.drop b).take ks.length)=vs[b]:=by
    unfold valOf;split
    .grind
    .rw[n,qbb c];rfl
   rw[f];simp[part,g,c]
  rcases Gz h with⟨k,hu,rfl⟩|⟨hu,rfl⟩|⟨hu,rfl⟩|⟨fs,hu,_,_⟩
  .exact leaf (λfs e=>by rw[hu]at e;cases e) (by simp[isAgg,Qo hu]) rfl
  .exact leaf (λfs e=>by rw[hu]at e;cases e) (by simp[isAgg,Qo hu]) rfl
  .exact leaf (λfs e=>by rw[hu]at e;cases e) (by simp[isAgg,Qo hu]) rfl
  .have g:(isAgg t).run P w= .ok true w:=by simp[isAgg,Qo hu]
   have f:valOf P t ((vs.drop b).take ks.length)= .agg ((vs.drop b).take ks.length).toArray:=by unfold valOf;rw[hu]
   rw[f];simp[part,g,sizeOf,typeInfo,hi,m,List.extract]
def Ot{M:Nat->Prop}{G:Gh}{d e:Nat}(D:∀(t:TI) (ks:Z LK) (cs l:Z PV) (b:Bool) (vs us:Z Va),tI P d t=some ks->ic ks cs l=some b->aK w M G cs vs->aK w M G l us->(Op.equalIn e t (valOf P t vs) (valOf P t us)).run P w= .ok b w):
  ∀(fs:Z Field) (ks:Z LK) (c:Nat) (cs l:Z PV) (b:Bool) (vs us:Z Va),HP P (tI P d) fs c=some ks->cs.length=c+ks.length->l.length=c+ks.length->ic ks (cs.drop c) (l.drop c)=some b->aK w M G cs vs->aK w M G l us->(Op.eqFields e vs.toArray us.toArray fs).run P w= .ok b w:=by
 intro fs
 induction fs with
 |nil=>
  intro ks c cs l b vs us h y u q r k;simp[HP,Qb]at h;subst h;rw[List.drop_eq_nil_of_le (by simpa using qap y),List.drop_eq_nil_of_le (by simpa using qap u)]at q
  simp[ic,Qb]at q;subst q;simp[Op.eqFields]
 |cons f fs B=>
  intro ks c cs l b vs us h y u q r k;rw[HP]at h;split at h
  .rename_i g
   let⟨g,j⟩:=g
   split at h
   .rename_i n i m hi;split at h
    .rename_i p;simp[Qh]at h;obtain⟨k2,s,rfl⟩:=h;rw[QY]at y u;obtain⟨b1,F,h1,z,rfl⟩:=zr n k2 _ _ b q;rw[List.drop_drop]at z;rw[List.drop_drop]at z;have p1:(part f.type vs.toArray f.offset).run P w=_:=FF (w:=w) m hi p (by rw[j,r.1];omega)
     have A:(part f.type us.toArray f.offset).run P w=_:=FF (w:=w) m hi p (by rw[j,k.1];omega)
     have q1:=D f.type n _ _ b1 _ _ m h1 ((r.drop c).take n.length) ((k.drop c).take n.length);rw[<-j]at q1;have q2:=B k2 (c+n.length) cs l F vs us s O O z r k
     cases b1 with
     |false=>simp[Op.eqFields,g,p1,A,q1]
     |true=>simp[Op.eqFields,g,p1,A,q1,q2]
    .cases h
   .cases h
  .cases h
def Je{M:Nat->Prop}{G:Gh}:∀(d:Nat) (t:TI) (ks:Z LK) (e:Nat) (cs g:Z PV) (b:Bool) (vs us:Z Va),tI P d t=some ks->d<=e->ic ks cs g=some b->aK w M G cs vs->aK w M G g us->(Op.equalIn e t (valOf P t vs) (valOf P t us)).run P w= .ok b w
 |0=>λt ks e cs g b vs us h=>by simp[tI]at h
 |d+1=>by
  have V:=Je (M:=M) (G:=G) d;intro t ks e cs g b vs us h he f J n
  .obtain⟨e,rfl⟩:∃e',e=e'+1:=⟨e - 1,O⟩
   let⟨A,z⟩:=Fe _ _ _ _ f
   have one:∀{x:LK},ks=[x]->∃p q v u,cs=[p]/\g=[q]/\vs=[v]/\us=[u]/\aJ w M G p v/\aJ w M G q u:=by intro x T;subst T;have H:∃p,cs=[p]:=List.length_eq_one_iff.1 A;have F:∃p,g=[p]:=List.length_eq_one_iff.1 z;obtain⟨p,rfl⟩:=H;obtain⟨q,rfl⟩:=F;obtain⟨v,K,rfl,m,j⟩:=J.cons_inv;obtain⟨u,N,rfl,R,Q⟩:=n.cons_inv;have e1:=j.lF;have e2:=Q.lF;subst e1 e2;exact⟨p,q,v,u,rfl,rfl,rfl,rfl,m,R⟩
   have c:∀l:Z Va,(∀fs,P.underlying t≠some (.struct fs))->valOf P t l=l.headD undef:=by
    intro l y;unfold valOf;split
    .rename_i fs D;exact absurd D (y fs)
    .rfl
   rcases Gz h with⟨k,hu,hk⟩|⟨hu,hk⟩|⟨hu,hk⟩|⟨fs,hu,s,U⟩
   .obtain⟨p,q,v,u,rfl,rfl,rfl,rfl,m,j⟩:=one hk;subst hk;rw[c _ (λfs e=>by rw[hu]at e;cases e),c _ (λfs e=>by rw[hu]at e;cases e)]
    cases p<;>cases q<;>simp only[ic]at f<;>try (cases f;done)
    split at f
    .rename_i B;subst B;simp[Qn,Qb,QV]at f;subst f;have:=m.dE;subst this;have:=j.dE;subst this;rename_i k1 i b1;exact run_equalIn_int w e t _ k i b1 hu
    .cases f
   .obtain⟨p,q,v,u,rfl,rfl,rfl,rfl,m,j⟩:=one hk;subst hk;rw[c _ (λfs e=>by rw[hu]at e;cases e),c _ (λfs e=>by rw[hu]at e;cases e)]
    cases p<;>cases q<;>simp only[ic]at f<;>try (cases f;done)
    simp only[Qn,Qb,QV]at f;subst f;have:=m.kh;subst this;have:=j.kh;subst this;rename_i i b1;have:=run_equalIn_string (P:=P) w e t i b1 hu;rw[toList_eq_iff]at this;exact this
   .obtain⟨p,q,v,u,rfl,rfl,rfl,rfl,m,j⟩:=one hk;subst hk;rw[c _ (λfs e=>by rw[hu]at e;cases e),c _ (λfs e=>by rw[hu]at e;cases e)]
    cases p<;>cases q<;>simp only[ic]at f<;>try (cases f;done)
    simp only[Qn,Qb,QV]at f;subst f;have:=m.iK;subst this;have:=j.iK;subst this;rename_i i b1;have:=run_equalIn_bool (P:=P) w e t i b1 hu;rw[show(i==b1)=decide (i=b1)by cases i<;>cases b1<;>rfl]at this
    exact this
   .have I:∀l:Z Va,valOf P t l= .agg l.toArray:=λl=>by unfold valOf;rw[hu]
    have r:P.fieldsOf t=fs:=by simp[Program.fieldsOf,hu]
    rw[I,I,run_equalIn_struct w e t _ _ (by rw[r];exact hu) s,r]
    exact Ot (λt ks cs g b vs us H F X W=>V t ks e cs g b vs us H O F X W) fs.toList ks 0 cs g b vs us U O O (by simpa using f) J n
def I1(h:Rel E S a w L){neg:Bool}{ks:Z LK}{y z:Od}{m k:aQ}{t t2:TI}{fs:Array Field}(g:o.op= .binOp (if neg then .neq else .eql) t y z t2)(u:P.underlying t=some (.struct fs))(B:tI P 64 t=some ks)
  (j:P.eqGuardType P.depth t=false) (s:aM y=some m) (r:aM z=some k) (e:exec Γ nid S (.CQ neg ks m k)=some (x,wr)):Good P E S a w o x wr:=by
 have p:=h.dK s;have n:=h.dK r;simp[exec]at e;split at e
 .rename_i cs J I H;simp only[Qh]at e;obtain⟨b,D,e⟩:=e;injection e with h1 F
  subst h1 F;rw[I]at p;rw[H]at n
  let⟨vs,q,A⟩:=p.lL
  let⟨us,hu,i⟩:=n.lL
  have d:∀l:Z Va,valOf P t l= .agg l.toArray:=λl=>by unfold valOf;rw[u]
  have c:=Je (P:=P) (w:=w) 64 t ks 10000 cs J b vs us B O D A i;rw[d,d]at c
  have f:∀op,(eqGuard op t y z (.agg vs.toArray) (.agg us.toArray)).run P w= .ok () w:=by intro op;cases op<;>simp[eqGuard,program,Sem.run,j]
  refine Good.pure h (v:= .bool (xor neg b)) ?_ (.bool _);cases neg
  .simp[QR,QE]at g;simp[execOp,g,q,hu,Qs,f,QK,binOp,Op.equal,Op.maxDepth,QP];rw[c];simp
  .simp[Qp]at g;simp[execOp,g,q,hu,Qs,f,QK,binOp,Op.equal,Op.maxDepth,QP];rw[c];simp
 .cases e
def aJ.closed{M M':Nat->Prop}{G G':Gh}{y:PV}{v:Va}(s:y.closed=true)(n:∀b,M' b->M b)(h:aJ w M G y v):aJ w M' G' y v:=by
 have hs:bN w w M M':=(bN.of λ_ q=>λl=>q (n _ l))
 cases h with
 |any|undef|fe|agg|cg|ptr|own|cp|view=>simp[PV.closed]at s
 |int=>exact .int _ _
 |bool=>exact .bool _
 |dI=>first|exact .dI _|simp[PV.closed]at s
 |str=>exact .str _
 |fF=>exact .fF
 |cu=>exact .cu
 |aT f cs vs m h=>
  cases cs with
  |nil=>exact .aT f [] vs m (λi x v z _=>by simp at z)
  |cons=>simp[PV.closed]at s
 |ref cs ad vs m d h=>exact .ref cs ad vs m (λi u j=>⟨(d i u j).1,λl=>(d i u j).2 (n _ l)⟩) (λi p u g j=>(h i p u g j).mono hs (Gh.le.refl _))
 |sl es ad c k vs hk m d h B q=>exact .sl es ad c k vs hk m (λi u j=>⟨(d i u j).1,λl=>(d i u j).2 (n _ l)⟩) (λi p u g j=>(h i p u g j).mono hs (Gh.le.refl _)) B q
 |slnil=>exact .slnil
 |qm=>exact .qm
 |rM T v=>exact .rM T v
 |fH T x v g h=>exact .fH T x v g (h.plain g)
 |gm ks us b es H D t hk A h1 F=>exact .gm ks us b es H D (λl=>t (n _ l)) hk A (λi p e g r=>(h1 i p e g r).mono hs (Gh.le.refl _)) (λi p e g r=>(F i p e g r).mono hs (Gh.le.refl _))
def aK.closed{M M':Nat->Prop}{G G':Gh}{c:Z PV}{vs:Z Va}(f:c.all PV.closed=true)(g:∀b,M' b->M b)(h:aK w M G c vs):aK w M' G' c vs:=
 ⟨h.1,λi y v d e=>(h.2 i y v d e).closed (Qe.1 f y (QD d)) g⟩
def aJ.aZ{M M':Nat->Prop}{G G':Gh}{y:PV}{v:Va}(d:y.aZ=true)(e:∀b,M' b->M b)(h:aJ w M G y v):aJ w M' G' y v:=by
 cases y with
 |agg cs=>cases h with|agg _ vs c h=>have:=aK.closed (G':=G') (by simpa[PV.aZ]using d) e ⟨c,h⟩;exact .agg cs vs this.1 this.2
 |cg cs=>cases h with|cg _ vs c h=>have:=aK.closed (G':=G') (by simpa[PV.aZ]using d) e ⟨c,h⟩;exact .cg cs vs this.1 this.2
 |aT f cs=>cases h with|aT _ _ vs c h=>have:=aK.closed (G':=G') (by simpa[PV.aZ]using d) e ⟨c,h⟩;exact .aT f cs vs this.1 this.2
 |_=>exact h.closed (by simpa[PV.aZ]using d) e
def aJ.oP{M M':Nat->Prop}{G G':Gh}{y:PV}{v:Va}(d:y.oP=true)(e:∀b,M' b->M b)(h:aJ w M G y v):aJ w M' G' y v:=by
 cases y with
 |cg cs=>cases h with|cg _ vs g h=>exact .cg cs vs g λi y v c f=>(h i y v c f).aZ (Qe.1 (show cs.all PV.aZ=true from d) y (QD c)) e
 |_=>exact h.aZ d e
def aJ.kv{w':Wo}{M M':Nat->Prop}{G G':Gh}{y:PV}{v:Va}(b:y.kv=true)(h:aJ w M G y v):aJ w' M' G' y v:=by
 have go:∀{cs:Z PV} {vs:Z Va},cs.all PV.plain=true->aK w M G cs vs->aK w' M' G' cs vs:=λb h=>⟨h.1,λi y v c d=>(h.2 i y v c d).plain (Qe.1 b y (QD c))⟩
 cases y with
 |agg cs=>cases h with|agg _ vs e h=>have:=go (by simpa[PV.kv]using b) ⟨e,h⟩;exact .agg cs vs this.1 this.2
 |_=>exact h.plain (by simpa[PV.kv]using b)
def aJ.nO{w':Wo}{M M':Nat->Prop}{G G':Gh}{y:PV}{v:Va}(c:y.nO=true)(h:aJ w M G y v):aJ w' M' G' y v:=by
 cases y with
 |cg cs=>cases h with|cg _ vs e h=>exact .cg cs vs e λi y v b d=>(h i y v b d).kv (Qe.1 (show cs.all PV.kv=true from c) y (QD b))
 |_=>exact h.kv c
def aK.plain{w':Wo}{M M':Nat->Prop}{G G':Gh}{b:Z PV}{vs:Z Va}(e:b.all PV.plain=true)(h:aK w M G b vs):aK w' M' G' b vs:=
 ⟨h.1,λi y v c d=>(h.2 i y v c d).plain (Qe.1 e y (QD c))⟩
def qd{H:Nat->dg}{ex:Y Nat}{M M':Nat->Prop}{G:Gh}{y:PV}{v:Va}(d:y.closed=true)(e:∀b,M' b->M b)(h:aJ w M G y v)(n:Nat):aJ w M' cn (fz H ex n y) v:=by
 have c:y= .cu\/fz H ex n y=y:=by
  cases y with
  |aT f cs=>
   cases cs with
   |nil=>right;cases n<;>simp[fz,PV.closed]
   |cons=>simp[PV.closed]at d
  |_=>first|exact .inl rfl|(right;cases n<;>simp_all [fz,PV.closed])|(simp[PV.closed]at d;done)
 rcases c with rfl|c
 .have:=h.ml;subst this;cases n<;>exact .slnil
 .rw[c];exact h.closed d e
def HO{H:Nat->dg}{ex:Y Nat}{M M':Nat->Prop}{G:Gh}{y:PV}{v:Va}(d:y.aZ=true)(j:∀b,M' b->M b)(h:aJ w M G y v)(n:Nat):aJ w M' cn (fz H ex (n+1) y) v:=by
 have go:∀{cs:Z PV} {vs:Z Va},cs.all PV.closed=true->aK w M G cs vs->aK w M' cn (cs.map (fz H ex n)) vs:=λd c=>
  ⟨by simp[c.1],λi p u g k=>by
   rw[Qr,Qh]at g;obtain⟨q,e,rfl⟩:=g
   exact qd (Qe.1 d q (QD e)) j (c.2 i q u e k) n⟩
 cases y with
 |agg cs=>obtain⟨vs,rfl,c⟩:=h.lL;have:=go (by simpa[PV.aZ]using d) c;simp[fz];exact .agg _ _ this.1 this.2
 |cg cs=>obtain⟨vs,rfl,c⟩:=h.zy;have:=go (by simpa[PV.aZ]using d) c;simp[fz];exact .cg _ _ this.1 this.2
 |aT f cs=>obtain⟨vs,rfl,c⟩:=h.oQ;have:=go (by simpa[PV.aZ]using d) c;simp[fz];exact .aT _ _ _ this.1 this.2
 |_=>exact qd (by simpa[PV.aZ]using d) j h (n+1)
theorem Rel.fz(h:Rel E S a w L){ex:Y Nat}{M:Nat->Prop}(H:∀b,M b->aI E S L b)(I:∀id b,id<S.N->(S.H id).c.live=true->some id≠ex->bp (L id)=some b->¬M b):
  ∀(n:Nat) {y:PV} {v:Va},aJ w (aI E S L) (S.gh L) y v->aJ w M cn (fz S.H ex n y) v
 |0,y,v,r=>by
  cases s:y.closed with
  |true=>exact qd s H r 0
  |false=>
   have:TQ.fz S.H ex 0 y= .any:=by cases y<;>simp_all [TQ.fz,PV.closed]
   rw[this];exact .any _
 |n+1,y,v,r=>by
  have X:=λ{y:PV} {v:Va} (r:aJ w (aI E S L) (S.gh L) y v)=>h.fz H I n r
  have l:∀{cs:Z PV} {vs:Z Va},aK w (aI E S L) (S.gh L) cs vs->aK w M cn (cs.map (TQ.fz S.H ex n)) vs:=λj=>
   ⟨by simp[j.1],λi p u V A=>by
    rw[Qr,Qh]at V;obtain⟨q,K,rfl⟩:=V
    exact X (j.2 i q u K A)⟩
  cases y with
  |own id ab=>
   simp[TQ.fz];split
   .exact .any _
   .rename_i m;have c:some id≠ex/\(S.H id).ab=ab:=⟨λe=>m (.inl e),qbl.1 λe=>m (.inr e)⟩
    split
    .rename_i e k es s
     let⟨F,J⟩:=r.iy (show(S.gh L).V id=ab from c.2)
     let⟨vs,t,hk,j⟩:=h.gd F s
     rw[J,show(S.gh L).L id=L id from rfl]
     have Q:(es.map λe=>e.map (TQ.fz S.H ex n)).flatten=es.flatten.map (TQ.fz S.H ex n):=by rw[List.map_flatten]
     rcases t.2 with⟨z,h0⟩|⟨g,cap,U,z,_,W,N,R,_⟩
     .have:es=[]:=qah h0;subst this;rw[z];exact .slnil
     .rw[z];have d:=l j;rw[<-Q]at d;have D:es.length=(es.map λe=>e.map (TQ.fz S.H ex n)).length:=t_
      rw[D];refine .sl _ _ _ k vs (λu A=> ?_) d.1 (λi u A=>⟨t.cells (g:=g) (by rw[z];rfl) i u A,I id g F (by rw[s];rfl) c.1 (by rw[z];rfl)⟩) d.2 (by simpa using N) R
      obtain⟨q,K,rfl⟩:=Qq.1 A;simpa using hk q K
    .exact .any _
  |ptr id ab off=>
   simp[TQ.fz];split
   .exact .any _
   .rename_i m;have c:some id≠ex/\(S.H id).ab=ab:=⟨λe=>m (.inl e),qbl.1 λe=>m (.inr e)⟩
    split
    .rename_i cs s
     let⟨F,_⟩:=r.lC (show(S.gh L).V id=ab from c.2)
     let⟨b,J,z⟩:=h.qj r c.2 s
     let⟨b',U,T,B,W,j,_⟩:=h.mO F s
     rw[z]at B;simp[Value.pointer.injEq,Qb,qaI]at B;obtain⟨rfl,_⟩:=B;rw[J];have d:=(l j).drop off;exact .ref _ _ _ d.1 (λi u A=>⟨by rw[add_mid];exact kH W (ed A),I id b F (by rw[s];rfl) c.1 (by rw[z];rfl)⟩) d.2
    .exact .any _
  |agg cs=>obtain⟨vs,rfl,j⟩:=r.lL;have:=l j;exact .agg _ _ this.1 this.2
  |cg cs=>obtain⟨vs,rfl,j⟩:=r.zy;have:=l j;exact .cg _ _ this.1 this.2
  |aT f cs=>obtain⟨vs,rfl,j⟩:=r.oQ;have:=l j;exact .aT _ _ _ this.1 this.2
  |cu=>exact qd rfl H r (n+1)
  |_=>
   simp only[TQ.fz];split
   .rename_i s;exact r.closed s H
   .exact .any _
def R6(h:Rel E S a w L){b:Nat}(c:aI E S L b):b<w.heap.size:=by
 rcases c with⟨id,d,e,c⟩|c
 .exact((h.obj id d).pI e c).1
 .exact h.On c
def zH(h:Rel E S a w L){b:Nat}(c:aI E S L b):¬gb b:=by
 rcases c with⟨id,d,e,c⟩|c
 .rcases((h.obj id d).pI e c).2 with h1|h1
  .exact(E.vD b h1).2
  .intro f;have:=E.hX.gi.lt f;omega
 .exact h.V2 c
def Rel.gi(h:Rel E S a w L):GI w:=E.hX.gi.cO λb c=>h.fr.block b (E.hX.gi.lt c) λe=>(E.vD b e).2 c
def Rel.Le(h:Rel E S a w L){X:Nat->Prop}(hX:∀q,X q->aI E S L q):o3 w X:=⟨λq b=>R6 h (hX q b),λq b=>zH h (hX q b),h.gi⟩
def Rel.x0(h:Rel E S a w L):o3 w λ_=>False:= .nil h.gi
theorem aK.fz(h:Rel E S a w L){ex:Y Nat}{M:Nat->Prop}(k:∀b,M b->aI E S L b)(f:∀id b,id<S.N->(S.H id).c.live=true->some id≠ex->bp (L id)=some b->¬M b){c:Z PV}{vs:Z Va}
  (d:aK w (aI E S L) (S.gh L) c vs):aK w M cn (c.map (TQ.fz S.H ex 9)) vs:=
 ⟨by simp[d.1],λi p u e g=>by
  rw[Qr,Qh]at e;obtain⟨q,j,rfl⟩:=e
  exact h.fz k f 9 (d.2 i q u j g)⟩
def aK.aZ{M M':Nat->Prop}{G G':Gh}{c:Z PV}{vs:Z Va}(f:c.all PV.aZ=true)(g:∀b,M' b->M b)(h:aK w M G c vs):aK w M' G' c vs:=
 ⟨h.1,λi y v d e=>(h.2 i y v d e).aZ (Qe.1 f y (QD d)) g⟩
def aK.sd{H:Nat->dg}{ex:Y Nat}{M M':Nat->Prop}{G:Gh}{c:Z PV}{vs:Z Va}(g:c.all PV.aZ=true)(j:∀b,M' b->M b)(h:aK w M G c vs):aK w M' cn (c.map (TQ.fz H ex 9)) vs:=
 ⟨by simp[h.1],λi p u e f=>by
  rw[Qr,Qh]at e;obtain⟨q,d,rfl⟩:=e
  exact HO (Qe.1 g q (QD d)) j (h.2 i q u d f) 8⟩
def yW{es:Z (Z PV)}(h:ur es=true):es.flatten.all PV.closed=true:=by
 refine Qe.2 λy c=> ?_
 let⟨u,hu,b⟩:=List.mem_flatten.1 c
 exact Qe.1 (Qe.1 h u hu) y b
def yU{es:Z (Z PV)}(h:Cf es=true):es.flatten.all PV.plain=true:=by
 refine Qe.2 λy c=> ?_
 let⟨u,hu,b⟩:=List.mem_flatten.1 c
 exact Qe.1 (Qe.1 h u hu) y b
def xb{w:Wo}{b:Nat}{e k:Nat}{v:Va}{n:Nat}{xs:Z Va}(h:w.ownsRow b e k v n xs):w.ownsRow 0 e k v n xs:=by
 refine⟨h.1,?_⟩;rcases h.2 with h1|⟨g,cap,c,h1,_,d⟩
 .exact .inl h1
 .grind
def Jy{w w':Wo}{b:Nat}{e k:Nat}{v:Va}{n d:Nat}{xs ys:Z Va}(h:w.ownsRow b e k v n xs)(i:w'.ownsRow 0 e k v d ys):w'.ownsRow b e k v d ys:=by
 refine⟨i.1,?_⟩;rcases i.2 with h1|⟨g,cap,c,h1,_,m⟩
 .exact .inl h1
 .refine .inr ⟨g,cap,c,h1,?_,m⟩;rcases h.2 with⟨f,_⟩|⟨q,l,j,f,p,_⟩
  .rw[f]at h1;cases h1
  .grind
def Bw{w:Wo}{b:Nat}{e k:Nat}{v:Va}{n:Nat}{xs:Z Va}(h:w.ownsRow b e k v n xs):∃ad n c,v= .slice ad n c:=by
 rcases h.2 with⟨rfl,_⟩|⟨g,cap,d,rfl,_⟩
 .exact⟨_,_,_,rfl⟩
 .exact⟨_,_,_,rfl⟩
def yg{E:En}{w w':Wo}{b:Nat}{e k:Nat}{v u:Va}{n i:Nat}{xs ys:Z Va}(h:w.ownsRow (dQ E v) e k v n xs)(l:w'.ownsRow 0 e k u i ys)(hs:E.w0.heap.size<=b)
  (q:∀g,bp u=some g->bp v=some g\/b<=g):w'.ownsRow (dQ E u) e k u i ys:=by
 refine⟨l.1,?_⟩;rcases l.2 with h1|⟨g,cap,f,h1,_,r⟩
 .exact .inl h1
 .refine .inr ⟨g,cap,f,h1,?_,r⟩;have c:bp u=some g:=by rw[h1];rfl
  rcases q g c with d|d
  .rw[vn (v:=u) (v':=v) (by rw[c,d])]
   rcases h.2 with⟨j,_⟩|⟨t,p,m,j,s,_⟩
   .rw[j]at d;cases d
   .grind [bp]
  .grind [Ei]
def Ln(h:Rel E S a w L){id:Nat}(s:id<S.N)(f:(S.H id).c.live=true){e:Z PV}{l:Z Va}(m:aK w (aI E S L) (S.gh L) e l):
  ∃X:Nat->Prop,o3 w X/\(∀b,bp (L id)=some b->¬X b/\¬gb b)/\(∀q,Mv (L id) X q->aI E S L q)/\aK w (Mv (L id) X) cn (e.map (TQ.fz S.H (some id) 9)) l/\(e.all PV.aZ=true->∀q,aI E S L q->Mv (L id) X q):=by
 have g:∀b,bp (L id)=some b->aI E S L b:=λb i=> .inl ⟨id,s,f,i⟩
 by_cases k:e.all PV.aZ=true
 .have d:∀q,Mv (L id) (λq=>aI E S L q/\bp (L id)≠some q) q->aI E S L q:=by
   rintro q (c|c)
   .exact g q c
   .exact c.1
  refine⟨λq=>aI E S L q/\bp (L id)≠some q,h.Le λq c=>c.1,λb i=>⟨λc=>c.2 i,zH h (g b i)⟩,d,m.sd k d,λ_ q c=> ?_⟩
  by_cases i:bp (L id)=some q
  .exact .inl i
  .exact .inr ⟨c,i⟩
 .have d:∀q,Mv (L id) (λ_=>False) q->aI E S L q:=by
   rintro q (c|c)
   .exact g q c
   .exact c.elim
  refine⟨λ_=>False,h.x0,λb i=>⟨λc=>c,zH h (g b i)⟩,d,?_,λc=>absurd c k⟩
  refine m.fz h d (λj q t p n r c=> ?_)
  rcases c with c|c
  .exact n (by rw[h.apart j id q t s p f r c])
  .exact c
theorem TX{f:FI}{m:Model}{e k:Nat}(U:∀es d r g,m.rm es d=some (r,g)->Nl P f e k es d r g)(h:Rel E S a w L){d:Z PV}{vs:Z Va}(hr:aK w (aI E S L) (S.gh L) d vs)(i:tL m e k S d=some (x,wr)):
  Calls P f vs.toArray w (λen w'=>∃v L',en= .returned v/\Rel E (S.c7 wr) a w' L'/\aJ w' (aI E (S.c7 wr) L') ((S.c7 wr).gh L') x v):=by
 unfold tL at i;split at i
 case h_2=>cases i
 rename_i id ab N;split at i
 case isFalse=>cases i
 rename_i s;split at i
 case h_2=>cases i
 rename_i e' k' es hc;split at i
 case isFalse=>cases i
 rename_i hek;obtain⟨rfl,rfl,hok⟩:=hek;split at i
 case h_2=>cases i
 rename_i r g hmm;split at i
 case isFalse=>cases i
 rename_i n;obtain⟨rfl,rfl⟩:=bl i;simp only[Qa,Qw]at n;obtain⟨⟨hc1,hc2⟩,hc3⟩:=n;obtain⟨v0,W,rfl,r0,hr'⟩:=hr.cons_inv;obtain⟨hN,A⟩:=r0.iy (show(S.gh L).V id=ab from s)
 have A:v0=L id:=A;subst A;have b:(S.H id).c.live=true:=by rw[hc];rfl
 obtain⟨us,z,hk,hru⟩:=h.gd hN hc;obtain⟨X,hX,hXn,R,K,Q⟩:=Ln h hN b hr';refine(U es _ r g hmm w X hX (L id) W hXn ⟨us,xb z,hk,hru.closed (yW hok) R⟩ K).mono ?_;rintro en w' ⟨u,rfl,y,⟨us',F,hk',t⟩,l⟩
 have V:∀q,aI E {S with H:=bd S.H id ⟨ab,.row e' k' g⟩} (bd L id (L id)) q->aI E S L q:=by
  rintro q (⟨j,hj,I,J⟩|B)
  .simp only at hj I;have:bd L id (L id) j=L j:=by by_cases p:j=id<;>simp[bd,p]
   rw[this]at J
   by_cases p:j=id
   .subst p;exact .inl ⟨j,hj,b,J⟩
   .rw[bq _ _ p]at I;exact .inl ⟨j,hj,I,J⟩
  .exact .inr B
 have T:N.all PV.aZ=true->bN w' w' (Mv (L id) X) (aI E {S with H:=bd S.H id ⟨ab,.row e' k' g⟩} (bd L id (L id))):=λc=>(bN.of λ_ hnm=>λB=>hnm (Q c _ (V _ B)))
 obtain⟨h2,hs2,hg2⟩:=h.nM (w':=w') (hdr:=l.drawn) hN ⟨ab,.row e' k' g⟩ (L id) (.inl ⟨s.symm,rfl,b⟩) l.os l.tape l.output l.size
  (λq B hne=>l.block q B (hne b)) (λq _ B=> .inl ⟨b,B⟩)
  (λhs2 hg2=>⟨us',Jy z F,hk',by
   rcases hc3 with D|c
   .exact t.plain (yU D)
   .exact t.mono (T c) (cn.le _)⟩)
 refine⟨u,_,rfl,h2,?_⟩;rcases hc1 with D|c
 .exact y.nO D
 .exact y.mono (T c.1) (cn.le _)
theorem TW{f:FI}{m:Model}{e k:Nat}(hrow:∀es d r s,m.rm es d=some (r,s)->Fv P f e k es d s)(h:Rel E S a w L){d:Z PV}{vs:Z Va}(hr:aK w (aI E S L) (S.gh L) d vs)(i:tK m e k S d=some (x,wr)):
  Calls P f vs.toArray w (λen w'=>∃v L',en= .returned v/\Rel E (S.c7 wr) a w' L'/\aJ w' (aI E (S.c7 wr) L') ((S.c7 wr).gh L') x v):=by
 unfold tK at i;split at i
 case h_2=>cases i
 rename_i id ab U;split at i
 case isFalse=>cases i
 rename_i V;split at i
 case h_2=>cases i
 rename_i e' k' es hc;split at i
 case isFalse=>cases i
 rename_i hek;obtain⟨rfl,rfl,hok⟩:=hek;split at i
 case h_2=>cases i
 rename_i r s hmm;split at i
 case isFalse=>cases i
 rename_i A;obtain⟨rfl,rfl⟩:=bl i;simp only[Qa,Qw]at A;obtain⟨hc2,hc3⟩:=A;obtain⟨v0,vs',rfl,r0,hr'⟩:=hr.cons_inv;obtain⟨T,K⟩:=r0.iy (show(S.gh L).V id=ab from V)
 have K:v0=L id:=K;subst K;have b:(S.H id).c.live=true:=by rw[hc];rfl
 obtain⟨us,y,hk,hru⟩:=h.gd T hc;obtain⟨X,hX,hXn,hsub,R,I⟩:=Ln h T b hr';refine(hrow es _ r s hmm w X hX (L id) vs' hXn ⟨us,xb y,hk,hru.closed (yW hok) hsub⟩ R).mono ?_;rintro en w' ⟨u,rfl,⟨us',t,hk',J⟩,W,p⟩
 have hEX:∀q,E.X q->bp (L id)≠some q:=by
  intro q g F
  by_cases hH:E.H0 q
  .exact(h.an.2.2 q hH).2.2 id T b F
  rcases y.2 with⟨h4,_⟩|⟨g',cap',cur',h4,h5,_⟩
  .rw[h4]at F;cases F
  .have D:bp (L id)=some g':=by rw[h4];rfl
   rw[F]at D;injection D with D
   subst D;rcases AH F h5 with⟨h6,h7⟩|h6
   .exact E.Gn h6 q h7 g
   .have:=E.hX.lt q ⟨g,hH⟩;omega
 have hst:U.all PV.aZ=true->bN w' w' (Mv u X) (aI E {S with H:=bd S.H id ⟨ab+1,.row e' k' s⟩} (bd L id u)):=by
  intro l;refine(bN.of λ_ hnm=>λg=>hnm ?_)
  rcases g with⟨j,hj,B,z⟩|g
  .simp only at hj B
   by_cases Q:j=id
   .subst Q;rw[bf]at z;exact .inl z
   .rw[bq _ _ Q]at B z;rcases I l _ (.inl ⟨j,hj,B,z⟩)with g|g
    .exact absurd (h.apart j id _ hj T B b z g) Q
    .exact .inr g
  .rcases I l _ (.inr g)with N|N
   .exact absurd N (hEX _ g)
   .exact .inr N
 obtain⟨h2,hs2,hg2⟩:=h.nM (w':=w') (hdr:=p.drawn) T ⟨ab+1,.row e' k' s⟩ u (.inr (by show(S.H id).ab<ab+1;omega)) p.os p.tape p.output p.size
  (λq g hne=>p.block q g (hne b)) (λq _ g=>(W q g).imp (λF=>⟨b,F⟩) (λF=>F))
  (λhs2 hg2=>⟨us',yg y t h.fr.size W,hk',by
   rcases hc3 with hpl|l
   .exact J.plain (yU hpl)
   .exact J.mono (hst l) (cn.le _)⟩)
 let⟨ad,n,c,hu⟩:=Bw t
 refine⟨u,_,rfl,h2,?_⟩;subst hu;exact .own _ _ _ _ _ T (by simp[St.gh,St.c7,bf]) (λ_=>by simp[St.gh,St.c7,bf])
theorem TL{f:FI}{m:Model}{e k:Nat}(J:∀b r p,m.rm [] b=some (r,p)->KT P f b e k p)(h:Rel E S a w L)(hn:nid<S.N){b:Z PV}{vs:Z Va}(hr:aK w (aI E S L) (S.gh L) b vs)(F:Ag m e k nid S b=some (x,wr)):
  Calls P f vs.toArray w (λen w'=>∃v L',en= .returned v/\Rel E (S.c7 wr) a w' L'/\aJ w' (aI E (S.c7 wr) L') ((S.c7 wr).gh L') x v):=by
 unfold Ag at F;split at F
 case h_2=>cases F
 rename_i r p W;split at F
 case isFalse=>cases F
 rename_i y;obtain⟨rfl,rfl⟩:=bl F;simp only[Qa,Qw]at y;obtain⟨hc2,hc3⟩:=y
 have Q:∃X:Nat->Prop,o3 w X/\aK w X cn (b.map (TQ.fz S.H none 9)) vs/\(b.all PV.aZ=true->∀q,aI E S L q->X q):=by
  by_cases d:b.all PV.aZ=true
  .exact⟨aI E S L,h.Le λq i=>i,hr.sd d (λq i=>i),λ_ q i=>i⟩
  .exact⟨λ_=>False,h.x0,hr.fz h (λq i=>i.elim) (λj q hj z hne t i=>i),λi=>absurd i d⟩
 obtain⟨X,hX,D,A⟩:=Q;refine(J _ r p W w X hX vs D).mono ?_;rintro en w' ⟨u,rfl,⟨N,s,hk',B⟩,I,l⟩
 have R:b.all PV.aZ=true->bN w' w' (Mv u X) (aI E {S with H:=bd S.H nid ⟨(S.H nid).ab+1,.row e k p⟩} (bd L nid u)):=by
  intro d;refine(bN.of λ_ V=>λi=>V ?_)
  rcases i with⟨j,hj,z,t⟩|i
  .simp only at hj z
   by_cases K:j=nid
   .subst K;rw[bf]at t;exact .inl t
   .rw[bq _ _ K]at z t;exact .inr (A d _ (.inl ⟨j,hj,z,t⟩))
  .exact .inr (A d _ (.inr i))
 obtain⟨h2,T,hg2⟩:=h.nM (w':=w') (hdr:=l.drawn) hn ⟨(S.H nid).ab+1,.row e k p⟩ u (.inr (Q9 _)) l.os l.tape l.output l.size
  (λq i _=>l.block q i t_) (λq _ i=> .inr (I q i))
  (λT hg2=>⟨N,yg (v:= .slice none 0 0) (World.ownsRow_nil w _ _ _) s h.fr.size (λg hg=> .inr (I g hg)),hk',by
   rcases hc3 with U|d
   .exact B.plain (yU U)
   .exact B.mono (R d) (cn.le _)⟩)
 let⟨ad,n,c,hu⟩:=Bw s
 refine⟨u,_,rfl,h2,?_⟩;subst hu;exact .own _ _ _ _ _ hn (by simp[St.gh,St.c7,bf]) (λ_=>by simp[St.gh,St.c7,bf])
def aK.Sz{M:Nat->Prop}{G:Gh}{b:Z PV}{vs:Z Va}(f:aK w M G b vs){p:Nat}{y:PV}(h:b[p]?=some y):
  ∃c,aJ w M G y c/\aK w M G (cutAt p b) (cutAt p vs)/\gL p [c] (cutAt p vs)=vs:=by
 let⟨c,e,d⟩:=f.get h
 refine⟨c,d,(f.take p).append (f.drop (p+1)),?_⟩;have g:p<vs.length:=(QI.1 e).1;have l:(vs.take p).length=p:=o_
 have k:(cutAt p vs).take p=vs.take p:=by grind [cutAt]
 have j:(cutAt p vs).drop p=vs.drop (p+1):=by grind [cutAt]
 unfold gL;rw[k,j]
 have i:vs.drop p=c::vs.drop (p+1):=by
  rw[qbb g]
  grind
 rw[qaf,List.singleton_append,<-i,List.take_append_drop]
def HV(hΓ:fQ P Γ)(h:Rel E S a w L)(hn:nid<S.N){f:FI}{l:Z PV}{vs:Z Va}(hr:aK w (aI E S L) (S.gh L) l vs)(p:ig Γ nid S f l=some (x,wr)):
  Enters P f/\Calls P f vs.toArray w (λe w'=>∃v L',e= .returned v/\Rel E (S.c7 wr) a w' L'/\aJ w' (aI E (S.c7 wr) L') ((S.c7 wr).gh L') x v):=by
 unfold ig at p;split at p
 .cases p
 .rename_i m hm;obtain⟨hen,J,hconN,hrow,hro⟩:=hΓ f m hm;refine⟨hen,?_⟩;split at p
  .grind [Bt,TX]
  .grind [Bt,TW]
  .grind [Bt,TL]
  split at p
  .rename_i hfresh;split at p
   .rename_i r0 cs K;split at p
    .rename_i k;obtain⟨rfl,rfl⟩:=bl p;simp only[Qa,Qw]at k;obtain⟨hc1,hc2⟩:=k
     have Q:∃X:Nat->Prop,o3 w X/\aK w X cn (l.map (TQ.fz S.H none 9)) vs/\(l.all PV.aZ=true->∀q,aI E S L q->X q):=by
      by_cases d:l.all PV.aZ=true
      .exact⟨aI E S L,h.Le λq c=>c,hr.sd d (λq c=>c),λ_ q c=>c⟩
      .exact⟨λ_=>False,h.x0,hr.fz h (λq c=>c.elim) (λj q V t R z c=>c),λc=>absurd c d⟩
     obtain⟨X,hX,u,A⟩:=Q;refine(hconN hfresh _ _ _ K w X hX vs u).mono ?_;rintro e w' ⟨b,rvs,T,rfl,hbge,hh,hrc,i⟩
     have hmq:l.all PV.aZ=true->∀q,aI E {S with H:=bd S.H nid ⟨(S.H nid).ab+1,.box cs⟩} (bd L nid (.pointer (some ⟨b,0,none⟩))) q->X q\/q=b:=by
      rintro d q (⟨j,V,t,z⟩|c)
      .simp only at V t
       by_cases N:j=nid
       .grind [bf,bp]
       .rw[bq _ _ N]at t z;exact .inl (A d q (.inl ⟨j,V,t,z⟩))
      .exact .inl (A d q (.inr c))
     obtain⟨h2,W,hg2⟩:=h.nM (w':=w') (hdr:=i.drawn) hn ⟨(S.H nid).ab+1,.box cs⟩ (.pointer (some ⟨b,0,none⟩)) (.inr (Q9 _)) i.os i.tape i.output i.size (λq c _=>i.block q c t_)
      (λq _ c=> .inr (by simp only[bp,Qb]at c;omega))
      (λW hg2=>⟨b,rvs.toArray,T,rfl,hh,.inr (QS h.fr.size hbge),by
       simp only;rcases hc2 with F|d
       .exact hrc.plain F
       .exact hrc.mono (bN.of λ_ hn' c=>hn' (hmq d _ c)) (cn.le _)⟩)
     refine⟨_,_,rfl,h2,?_⟩;exact .ptr _ _ _ _ hn (by simp[St.gh,St.c7,bf]) (λ_=>by simp[St.gh,St.c7,bf,bp])
    .cases p
   .cases p
  rename_i hnf;have hnf':m.fresh=false:=by simpa using hnf
  have J:=J hnf';split at p
  .rename_i s;split at p
   .rename_i id ab hpos;generalize hrest:cutAt m.pos l=rest at p;split at p
    .rename_i I;split at p
     .rename_i cs hc;split at p
      .rename_i hcl;split at p
       .rename_i r cs' K;split at p
        .rename_i k;obtain⟨rfl,rfl⟩:=bl p
         have hwr:S.c7 (if(m.ro&&cs.all PV.JA)=true then none else some (id,(⟨ab,.box cs'⟩:dg)))=S.c7 (some (id,⟨ab,.box cs'⟩)):=by
          split
          .rename_i c;rw[Qa]at c
           have e1:cs.map TQ.nz=cs:=by
            rw[QU (g:=λy=>y) λy hy=>by have:=Qe.1 c.2 y hy;cases y<;>first|rfl|cases this]
            simp
           have e2:=hro c.1 _ _ _ _ K;rw[e1]at e2;rw[e2];show S={S with H:=bd S.H id ⟨ab,.box cs⟩}
           have e3:(⟨ab,.box cs⟩:dg)=S.H id:=by rw[<-I,<-hc]
           rw[e3]
           have e4:bd S.H id (S.H id)=S.H:=by
            funext j;unfold bd;split
            .rename_i e;rw[e]
            .rfl
           rw[e4]
          .rfl
         rw[hwr];simp only[Qa,Qw]at k;obtain⟨⟨⟨hc1,hc2⟩,hc3⟩,hc4⟩:=k;obtain⟨v0,r0,hr',hins⟩:=hr.Sz hpos;rw[hrest]at hr';generalize cutAt m.pos vs=vs' at hr' hins;obtain⟨hN,_⟩:=r0.lC (show(S.gh L).V id=ab from I)
         obtain⟨b,hv0,hL⟩:=h.qj r0 I hc;obtain⟨b',cur,T,hL',hh,hrc,hE⟩:=h.mO hN hc;rw[hL]at hL';simp only[Value.pointer.injEq,Qb,qaI]at hL';obtain⟨rfl,_⟩:=hL';have U:aI E S L b:= .inl ⟨id,hN,by rw[hc];rfl,by rw[hL];rfl⟩
         have Q:∃X:Nat->Prop,o3 w X/\(∀q,Mc true b X q->aI E S L q)/\aK w (Mc true b X) cn (rest.map (TQ.fz S.H (some id) 9)) vs'/\(rest.all PV.aZ=true->∀q,aI E S L q->Mc true b X q):=by
          by_cases d:rest.all PV.aZ=true
          .refine⟨aI E S L,h.Le λq c=>c,λq c=> ?_,?_,λ_ q c=> .inr c⟩
           .rcases c with⟨_,rfl⟩|c
            .exact U
            .exact c
           .exact hr'.sd d (λq c=>by
             rcases c with⟨_,rfl⟩|c
             .exact U
             .exact c)
          .refine⟨λ_=>False,h.x0,λq c=> ?_,?_,λc=>absurd c d⟩
           .rcases c with⟨_,rfl⟩|c
            .exact U
            .exact c.elim
           .refine hr'.fz h (λq c=> ?_) (λj q V t R z c=> ?_)
            .rcases c with⟨_,rfl⟩|c
             .exact U
             .exact c.elim
            .rcases c with⟨_,rfl⟩|c
             .exact R (by rw[h.apart j id q V hN t (by rw[hc];rfl) z (by rw[hL];rfl)])
             .exact c
         obtain⟨X,hX,hsub,u,A⟩:=Q;have n:=J (cs.map TQ.nz) (rest.map (TQ.fz S.H (some id) 9)) r cs' K w X hX b T cur.toList vs' (λ_=>⟨by simpa using hh,by rw[s];exact(hrc.closed hcl hsub).nz,zH h U⟩) (by rw[s];exact u)
         rw[s]at n;have hargsv:(gL m.pos (qb true b) vs').toArray=vs.toArray:=by rw[<-hins,hv0];rfl
         rw[hargsv]at n;refine n.mono ?_;rintro e w' ⟨v,rvs',rfl,D,hrv,i⟩;obtain⟨⟨T',hh'⟩,hrc'⟩:=hrv rfl;simp only[Qp]at i
         have hmm':∀q,aI E {S with H:=bd S.H id ⟨ab,.box cs'⟩} (bd L id (L id)) q->aI E S L q:=by
          rintro q (⟨j,V,t,z⟩|c)
          .simp only at V t;have:bd L id (L id) j=L j:=by by_cases N:j=id<;>simp[bd,N]
           rw[this]at z
           by_cases N:j=id
           .subst N;exact .inl ⟨j,V,by rw[hc];rfl,z⟩
           .rw[bq _ _ N]at t;exact .inl ⟨j,V,t,z⟩
          .exact .inr c
         have hst:rest.all PV.aZ=true->bN w' w' (Mc true b X) (aI E {S with H:=bd S.H id ⟨ab,.box cs'⟩} (bd L id (L id))):=λd=>(bN.of λ_ hnm=>λc=>hnm (A d _ (hmm' _ c)))
         obtain⟨h2,W,hg2⟩:=h.nM (w':=w') (hdr:=i.drawn) hN ⟨ab,.box cs'⟩ (L id) (.inl ⟨I.symm,rfl,by rw[hc];rfl⟩) i.os i.tape i.output i.size
          (λq c R=>i.block q c (λeq=>R (by rw[hc];rfl) (by rw[hL];exact eq)))
          (λq _ c=> .inl ⟨by rw[hc];rfl,c⟩)
          (λW hg2=>⟨b,rvs'.toArray,T',hL,hh',hE,by
           simp only;rcases hc4 with F|d
           .exact hrc'.plain F
           .exact hrc'.mono (hst d) (cn.le _)⟩)
         refine⟨v,_,rfl,h2,?_⟩;rcases hc1 with F|d
         .exact D.nO F
         .exact D.mono (hst d) (cn.le _)
        .cases p
       .cases p
      .cases p
     .cases p
    .cases p
   .cases p
  .rename_i s;split at p
   .rename_i r cs' K;split at p
    .rename_i k;obtain⟨rfl,rfl⟩:=bl p;simp only[Qw,Qa]at k;have B:m.recv=false:=by simpa using s
     have Q:∃X:Nat->Prop,o3 w X/\aK w (Mc false 0 X) cn (l.map (TQ.fz S.H none 9)) vs/\(l.all PV.aZ=true->∀q,aI E S L q->Mc false 0 X q):=by
      by_cases d:l.all PV.aZ=true
      .refine⟨aI E S L,h.Le λq c=>c,?_,λ_ q c=> .inr c⟩
       exact hr.sd d (λq c=>by
        rcases c with⟨c,_⟩|c
        .cases c
        .exact c)
      .refine⟨λ_=>False,h.x0,?_,λc=>absurd c d⟩
       refine hr.fz h (λq c=> ?_) (λj q V t R z c=> ?_)
       .rcases c with⟨c,_⟩|c
        .cases c
        .exact c.elim
       .rcases c with⟨c,_⟩|c
        .cases c
        .exact c
     obtain⟨X,hX,u,A⟩:=Q;have n:=J [] (l.map (TQ.fz S.H none 9)) r cs' K w X hX 0 0 [] vs (λc=>by rw[B]at c;cases c) (by rw[B];exact u)
     rw[B]at n;simp only[qb,QR,QE,Iq]at n;refine n.mono ?_;rintro e w' ⟨v,rvs',rfl,D,_,i⟩;simp only[QR,QE]at i;obtain⟨h2,W⟩:=h.grow (w':=w') i.os i.tape i.output i.size (λq c=>i.block q c t_) i.drawn
     refine⟨v,L,rfl,h2,?_⟩;rcases k with F|⟨d,_⟩
     .exact D.nO F
     .exact D.mono (bN.of λ_ hnm=>λc=>hnm (A d _ c)) (cn.le _)
    .cases p
   .cases p
end
end
section
open Go.RowKit
section
variable{P:Pr}{E:En}{S:St}{a:Act}{w:Wo}{L:Nat->Va}{o:Oper}{x:PV}{wr:Y (Nat×dg)}{Γ:gW}{nid:Nat}{hs:Z Nat}
theorem Az{α:Type}(f:Nat->α)(i:Nat):bd f i (f i)=f:=by grind [bd]
def Rel.kill(h:Rel E S a w L){id:Nat}(d:id<S.N)(c:(S.H id).c.live=true):Rel E {S with H:=bd S.H id ⟨(S.H id).ab,.dead⟩} a w L:=by
 have:=(h.nM (w':=w) d ⟨(S.H id).ab,.dead⟩ (L id) (.inl ⟨rfl,rfl,c⟩) rfl rfl rfl (Ql _) (λ_ _ _=>rfl) (λb c=>by cases c) (λ_ _=>trivial)).1
 rwa [Az]at this
def Rel.TH(h:Rel E S a w L){id e k:Nat}{es:Z (Z PV)}(s:id<S.N)(I:(S.H id).c= .row e k es)(V:∀u∈es,u.all PV.closed=true):
  Rel E {S with H:=bd S.H id ⟨(S.H id).ab,.dead⟩} a w L/\∀v,v=L id->aJ w (aI E {S with H:=bd S.H id ⟨(S.H id).ab,.dead⟩} L) (St.gh {S with H:=bd S.H id ⟨(S.H id).ab,.dead⟩} L) (.sl es) v:=by
 have c:(S.H id).c.live=true:=by rw[I];rfl
 refine⟨h.kill s c,λv Q=> ?_⟩
 let⟨vs,f,hk,T⟩:=h.gd s I
 rw[Q]
 have J:∀b,aI E {S with H:=bd S.H id ⟨(S.H id).ab,.dead⟩} L b->aI E S L b/\(bp (L id)=some b->E.X b):=by
  rintro b (⟨j,y,d,r⟩|F)
  .simp only at y d
   by_cases l:j=id
   .subst l;rw[bf]at d;cases d
   .rw[bq _ _ l]at d;exact⟨.inl ⟨j,y,d,r⟩,λD=>absurd (h.apart j id b y s d c r D) l⟩
  .exact⟨.inr F,λ_=>F⟩
 rcases f.2 with⟨m,X⟩|⟨g,cap,cur,m,B,hh,t,z,_⟩
 .have:es=[]:=qah X;subst this;rw[m];exact .slnil
 .rw[m]
  have A:es.flatten.all PV.closed=true:=by grind
  have p:=aK.closed (M':=aI E {S with H:=bd S.H id ⟨(S.H id).ab,.dead⟩} L) (G':=cn) A (λb r=>(J b r).1) T
  refine .sl _ _ _ k vs hk p.1 (λi u R=>⟨f.cells (g:=g) (by rw[m];rfl) i u R,λU=> ?_⟩) p.2 (by simpa using t) z
  have n:=(J g U).2 (by rw[m];rfl)
  have q:bp (L id)=some g:=by rw[m];rfl
  by_cases K:E.H0 g
  .exact(h.an.2.2 g K).2.2 id s c q
  rcases AH q B with⟨N,W⟩|N
  .exact E.Gn N g W n
  .have:=E.hX.lt g ⟨n,K⟩;omega
def Rel.Ae(h:Rel E S a w L){id e k:Nat}{es:Z (Z PV)}{v:Va}(r:aJ w (aI E S L) (S.gh L) (.own id (S.H id).ab) v)(d:(S.H id).c= .row e k es)(b:∀u∈es,u.all PV.closed=true):
  Rel E {S with H:=bd S.H id ⟨(S.H id).ab,.dead⟩} a w L/\aJ w (aI E {S with H:=bd S.H id ⟨(S.H id).ab,.dead⟩} L) (St.gh {S with H:=bd S.H id ⟨(S.H id).ab,.dead⟩} L) (.sl es) v:=by
 let⟨f,c⟩:=r.iy (show(S.gh L).V id=(S.H id).ab from rfl)
 let⟨h1,g⟩:=h.TH f d b
 exact⟨h1,g v c⟩
def O6{e k b:Nat}{s y:aQ}(g:exec Γ nid S (.bA true e k b s y)=some (x,wr)):∃id ab es,exec Γ nid S (.bA false e k b s y)=some (.own id ab,some (id,⟨ab,.row e k es⟩))/\x= .sl es/\wr=some (id,⟨ab,.dead⟩)/\∀u∈es,u.all PV.closed=true:=by
 have h:∀{id ab:Nat} {es:Z (Z PV)},C3 true id ab e k es=some (x,wr)->∃d c f,C3 false id ab e k es=some (.own d c,some (d,⟨c,.row e k f⟩))/\x= .sl f/\wr=some (d,⟨c,.dead⟩)/\∀u∈f,u.all PV.closed=true:=by grind [C3,bl]
 simp only[exec]at g ⊢;split at g
 .grind
 .cases g
def Good.Ae{id ab e k:Nat}{es:Z (Z PV)}(h:Good P E S a w o (.own id ab) (some (id,⟨ab,.row e k es⟩)))(c:∀u∈es,u.all PV.closed=true):Good P E S a w o (.sl es) (some (id,⟨ab,.dead⟩)):=by
 let⟨l,w',p,v,h1,m,f,i⟩:=h
 have d:(S.c7 (some (id,⟨ab,.row e k es⟩))).H id=⟨ab,.row e k es⟩:=bf _ _ _;have b:((S.c7 (some (id,⟨ab,.row e k es⟩))).H id).ab=ab:=by rw[d]
 have g:((S.c7 (some (id,⟨ab,.row e k es⟩))).H id).c= .row e k es:=by rw[d]
 generalize hS:S.c7 (some (id,⟨ab,.row e k es⟩))=S1 at f i d b g;rw[<-b]at f
 let⟨g1,g2⟩:=i.Ae f g c
 rw[b,<-hS]at g1 g2
 have n:({S.c7 (some (id,⟨ab,.row e k es⟩))with H:=bd (S.c7 (some (id,⟨ab,.row e k es⟩))).H id ⟨ab,.dead⟩}:St)=S.c7 (some (id,⟨ab,.dead⟩)):=by
  unfold St.c7;simp[St.mk.injEq,qaJ,Q8]
  funext j
  unfold bd;split<;>rfl
 rw[n]at g1 g2;exact⟨l,w',p,v,h1,m,g2,g1⟩
def hY{f:FI}(d:Enters P f)(b:Array Va):(callFunc f b).run P w= .ok (.enter f b) w:=by
 let⟨fn,j,h,i⟩:=d
 have g:¬fn.body=none:=by intro e;rw[e]at h;cases h
 have c:¬fn.name= "runtime.NumGoroutine":=by simpa using i
 simp[callFunc,program,Sem.run,j,g,c]
def HU{f:FI}{b:Array Va}(g:(execOp a.eval o).run P w= .ok (.enter f b) w)
  (c:Calls P f b w (λe w'=>∃v d,e= .returned v/\Rel E (S.c7 wr) a w' d/\aJ w' (aI E (S.c7 wr) d) ((S.c7 wr).gh d) x v)) (i:DC o) (j:∀t,o.dst=some t->E.can t) {K:Act->Wo->Prop} {Q:Exit->Act->Wo->Prop}
  (k:∀a' w' d,Rel E (S.bA o.dst x wr) a' w' d->K a' w'):o.wpIn (WF E.rd) 0 P a w K Q:=by
 unfold Oper.wpIn;rw[qaQ _ _ _ i,g];refine⟨λ_ _=>trivial,(λh=>by cases h),wG.2 (Calls.mono c ?_)⟩
 rintro e w' ⟨v,d,rfl,h1,l⟩;exact k _ _ _ (show Rel E (S.bA o.dst x wr) (a.put o.dst v) w' d from h1.Mh j l)
def Kg{f:FI}{xs:Z aQ}(b:xv P hs o=some (.call f xs)):∃(args:Array Od) (c:Array TI),o.op= .call {callee:= .value (.func f),args:=args,argTypes:=c}/\args.toList.mapM aM=some xs:=by
 unfold xv at b;split at b
 case h_22 h args c e=>
  simp[Qi,Qd]at b
  let⟨i,d,b⟩:=b
  split at b
  .injection b with b
   injection b with h1 g
   subst h1 g;exact⟨_,_,e,d⟩
  .simp[Qd,Qb,reduceCtorEq,qac,qbm]at b
 all_goals (repeat' split at b)<;>(try simp[Qi,Qd,Qb,reduceCtorEq,qac,qbm]at b)<;>(try (let⟨_,_,b⟩:=b))<;>(try (let⟨_,_,b⟩:=b))<;>(try (let⟨_,_,b⟩:=b))<;>(repeat' split at b)<;>(try simp[Qi,Qd,Qb,reduceCtorEq,qac,qbm]at b)<;>cases b
def ud{s:bV}(b:xv P hs o=some s):DC o:=by intro c e;unfold xv at b;rw[e]at b;cases b
theorem My(hΓ:fQ P Γ){s:bV}(d:xv P hs o=some s)(h:Rel E S a w L)(U:nid<S.N)(q:exec Γ nid S s=some (x,wr))(r:∀t,o.dst=some t->E.can t){K:Act->Wo->Prop}{Q:Exit->Act->Wo->Prop}
  (A:∀a' w' L',Rel E (S.bA o.dst x wr) a' w' L'->K a' w'):o.wpIn (WF E.rd) 0 P a w K Q:=by
 have m:DC o:=ud d;unfold xv at d;split at d
 case h_1 y j=>simp[Qi,Qd,Qb]at d;obtain⟨F,p,rfl⟩:=d;simp only[exec]at q;obtain⟨rfl,rfl⟩:=bl q;exact(PJ h (.inl j) p).wp m r A
 case h_2 y j=>simp[Qi,Qd,Qb]at d;obtain⟨F,p,rfl⟩:=d;simp only[exec]at q;obtain⟨rfl,rfl⟩:=bl q;exact(PJ h (.inr j) p).wp m r A
 case h_3 c y z j=>simp[Qi,Qd,Qb]at d;obtain⟨c',hc',F,p,J,B,rfl⟩:=d;exact(TA h j hc' p B q).wp m r A
 case h_4 t y j=>
  simp[Qi,Qd,Qb]at d;obtain⟨F,p,rfl⟩:=d;split at q
  .split at q
   .exact(TF h j p q).wp m r A
   .exact(PM h U j p q).wp m r A
  .exact(PM h U j p q).wp m r A
 case h_5 t j=>simp[Qi,Qd,Qb]at d;obtain⟨z,B,rfl⟩:=d;exact(Sm h U j B q).wp m r A
 case h_6 t y j=>simp[Qi,Qd,Qb]at d;obtain⟨n,hn',F,p,rfl⟩:=d;exact(TB h j hn' p q).wp m r A
 case h_7 t y z j=>simp[Qi,Qd,Qb]at d;obtain⟨i,hi,F,p,J,B,rfl⟩:=d;exact(Sg h j hi p B q).wp m r A
 case h_8 t parts j=>
  split at d
  .rename_i V D;simp[Qi,Qd,Qb]at d;obtain⟨z,B,places,hp,ps,X,rfl⟩:=d;exact(LD h j B (.inl ⟨V,places,D,hp,X⟩) q).wp m r A
  .rename_i n e D;simp[Qi,Qd,Qb]at d;obtain⟨z,B,i,hi,ps,X,rfl⟩:=d;exact(LD h j B (.inr ⟨n,e,i,D,hi,X⟩) q).wp m r A
  .cases d
 case h_9 t len parts j=>
  split at d
  .rename_i e D;simp only[Qi,Qd]at d;obtain⟨i,hi,z,B,ps,X,d⟩:=d;split at d
   .rename_i R;injection d with d
    subst d;exact(Vx h U j D hi B X R.1 R.2.1 R.2.2 q).wp m r A
   .cases d
  .cases d
 case h_10 s0 y f j=>
  split at d
  .rename_i V D;simp only[Qi,Qd]at d;obtain⟨fd,hf,i,hi,d⟩:=d;split at d
   .cases d
   .rename_i h0;simp[Qd,Qb]at d;obtain⟨F,p,rfl⟩:=d;exact(Sk h j D hf hi h0 p q).wp m r A
  .cases d
 case h_11 t y z j=>
  split at d
  .rename_i e D;simp[Qi,Qd,Qb]at d;obtain⟨i,hi,F,p,J,B,rfl⟩:=d;exact(Sj h j D hi p B q).wp m r A
  .cases d
 case h_12 op t y z t2 j=>
  split at d
  .rename_i fs D;split at d
   .rename_i f g hfs;split at d
    .rename_i k0 hf hg;split at d
     .rename_i R
      let⟨b1,b2,b3,b4,b5,b6⟩:=R
      split at d
      .simp[Qi,Qd,Qb]at d;obtain⟨F,p,J,B,rfl⟩:=d;exact(PL (neg:=false) h (by simpa using j) D hfs hf hg b1 b2 b3 b4 b5 b6 p B q).wp m r A
      .simp[Qi,Qd,Qb]at d;obtain⟨F,p,J,B,rfl⟩:=d;exact(PL (neg:=true) h (by simpa using j) D hfs hf hg b1 b2 b3 b4 b5 b6 p B q).wp m r A
      .cases d
     .cases d
    .split at d
     .rename_i ks hks;split at d
      .rename_i hgu;split at d
       .simp[Qi,Qd,Qb]at d;obtain⟨F,p,J,B,rfl⟩:=d;exact(I1 (neg:=false) h (by simpa using j) D hks hgu p B q).wp m r A
       .simp[Qi,Qd,Qb]at d;obtain⟨F,p,J,B,rfl⟩:=d;exact(I1 (neg:=true) h (by simpa using j) D hks hgu p B q).wp m r A
       .cases d
      .cases d
     .cases d
   .split at d
    .rename_i ks hks;split at d
     .rename_i hgu;split at d
      .simp[Qi,Qd,Qb]at d;obtain⟨F,p,J,B,rfl⟩:=d;exact(I1 (neg:=false) h (by simpa using j) D hks hgu p B q).wp m r A
      .simp[Qi,Qd,Qb]at d;obtain⟨F,p,J,B,rfl⟩:=d;exact(I1 (neg:=true) h (by simpa using j) D hks hgu p B q).wp m r A
      .cases d
     .cases d
    .cases d
  .rename_i e D;split at d
   .split at d
    .simp[Qi,Qd,Qb]at d;obtain⟨F,p,rfl⟩:=d;exact(LC (neg:=false) h (by simpa using j) D p q).wp m r A
    .simp[Qi,Qd,Qb]at d;obtain⟨F,p,rfl⟩:=d;exact(LC (neg:=true) h (by simpa using j) D p q).wp m r A
    .cases d
   .cases d
  .rename_i D;split at d
   .simp[Qi,Qd,Qb]at d;obtain⟨F,p,J,B,rfl⟩:=d;exact(PK (neg:=false) h (by simpa using j) D p B q).wp m r A
   .simp[Qi,Qd,Qb]at d;obtain⟨F,p,J,B,rfl⟩:=d;exact(PK (neg:=true) h (by simpa using j) D p B q).wp m r A
   .cases d
  .rename_i D;split at d
   .simp only[Qi,Qd,Qb]at d;obtain⟨F,p,J,B,rfl⟩:=d;exact(Tz h j p B q).wp m r A
   .simp only[Qi,Qd,Qb]at d;obtain⟨F,p,J,B,rfl⟩:=d;exact(PN h j p B q).wp m r A
  .rename_i ms D;split at d
   .split at d
    .simp only[Qi,Qd,Qb]at d;obtain⟨F,p,rfl⟩:=d;exact(NW (neg:=false) h (by simpa using j) D p q).wp m r A
    .simp only[Qi,Qd,Qb]at d;obtain⟨F,p,rfl⟩:=d;exact(NW (neg:=true) h (by simpa using j) D p q).wp m r A
    .cases d
   .cases d
  .simp only[Qi,Qd,Qb]at d;obtain⟨F,p,J,B,rfl⟩:=d;exact(PN h j p B q).wp m r A
 case h_13 t y j=>simp[Qi,Qd,Qb]at d;obtain⟨F,p,rfl⟩:=d;exact(Vo h j p q).wp m r A
 case h_14 src dst y j=>
  split at d
  .rename_i k0 k hs ht;simp[Qi,Qd,Qb]at d;obtain⟨F,p,rfl⟩:=d;exact(TE h j hs ht p q).wp m r A
  .rename_i e hs ht;split at d
   .rename_i R;simp only[Qi,Qd,Qb]at d;obtain⟨F,p,rfl⟩:=d;exact(Vy h j hs R ht p q).wp m r A
   .cases d
  .cases d
 case h_15 t y z j=>
  split at d
  .rename_i len e D;simp[Qi,Qd,Qb]at d;obtain⟨n,U,i,hi,F,p,J,B,rfl⟩:=d;exact(TG h j D U hi p B q).wp m r A
  .cases d
 case h_16 t y z ok j=>
  injection d with d
  subst d;cases q
 case h_17 y j=>simp[Qi,Qd,Qb]at d;obtain⟨F,p,rfl⟩:=d;exact(Sh h j p q).wp m r A
 case h_18 y i j=>simp[Qi,Qd,Qb]at d;obtain⟨F,p,rfl⟩:=d;exact(TD h j p q).wp m r A
 case h_19 f first caps j=>
  split at d
  .rename_i h0;simp[Qi,Qd,Qb]at d;obtain⟨cs,hcs,rfl⟩:=d;exact(Vt h j h0 hcs q).wp m r A
  .split at d
   .rename_i h0;simp[Qi,Qd,Qb]at d;obtain⟨cs,hcs,rfl⟩:=d;exact(Vu h j h0 hcs q).wp m r A
   .cases d
 case h_20 t l c j=>
  split at d
  .rename_i e D;simp only[Qi,Qd]at d;obtain⟨i,hi,d⟩:=d;split at d
   .rename_i h0;simp[Qd,Qb]at d;obtain⟨z,B,l',hl,c',hc',rfl⟩:=d;exact(Vq h U j D hi h0 B hl hc' q).wp m r A
   .cases d
  .cases d
 case h_21 t y lo hi j=>
  split at d
  .rename_i e D;simp[Qi,Qd,Qb]at d;obtain⟨i,hi0,F,p,lo',hlo,hi',hhi,rfl⟩:=d;exact(Vn h j D hi0 p hlo hhi q).wp m r A
  .rename_i D;split at d
   .cases d
   .simp[Qi,Qd,Qb]at d;obtain⟨F,p,l',hl,rfl⟩:=d;exact(JY h j D p (.inl ⟨_,_,rfl,rfl,hl,rfl⟩) q).wp m r A
   .simp only[Qi,Qd,Qb]at d;obtain⟨F,p,l',hl,rfl⟩:=d;exact(JY h j D p (.inr (.inl ⟨_,_,rfl,rfl,hl,rfl⟩)) q).wp m r A
   .simp only[Qi,Qd,Qb]at d;obtain⟨F,p,l',hl,m',hm,rfl⟩:=d;exact(JY h j D p (.inr (.inr ⟨_,_,_,_,rfl,rfl,hl,hm,rfl⟩)) q).wp m r A
  .cases d
 case h_22 fop args T j=>
  simp[Qi,Qd]at d
  let⟨xs,hxs,d⟩:=d
  have hr:=h.cy hxs;have W:args.map a.eval=(args.toList.map a.eval).toArray:=by rw[<-qaG,QZ]
  split at d
  .rename_i f;injection d with d
   subst d;simp[exec]at q
   let⟨hen,I⟩:=HV hΓ h U hr q
   exact HU (by simp[execOp,j,resolve,Act.eval,Deferred.ofValue,invoke,W,hY hen]) I m r A
  .simp[Qd,Qb]at d;obtain⟨fv,hfv,rfl⟩:=d;have rf:=h.dK hfv;simp[exec]at q;split at q
   .rename_i f caps ef;rw[ef]at rf
    let⟨vs,hv,hrc⟩:=rf.oQ
    let⟨hen,I⟩:=HV hΓ h U (hr.append hrc) q
    refine HU ?_ I m r A;simp[execOp,j,resolve,hv,Deferred.ofValue,Qs,QP,QK,invoke,W];simp[hY hen]
   .rename_i f caps ef;rw[ef]at rf
    let⟨vs,hv,hrc⟩:=rf.HW
    let⟨hen,I⟩:=HV hΓ h U (hrc.append hr) q
    refine HU ?_ I m r A;simp[execOp,j,resolve,hv,Deferred.ofValue,Qs,QP,QK,invoke,W];simp[hY hen]
   .cases q
 case h_23 b args T j=>
  split at d
  .rename_i y t H N;have W:args=#[y]:=by rw[<-QZ (xs:=args),H]
   have R:T=#[t]:=by rw[<-QZ (xs:=T),N]
   subst W R;split at d
   .rename_i D;simp[Qi,Qd,Qb]at d;obtain⟨F,p,rfl⟩:=d;exact(TC h j D p q).wp m r A
   .rename_i e D;simp[Qi,Qd,Qb]at d;obtain⟨F,p,rfl⟩:=d;exact(Vv h j D p q).wp m r A
   .cases d
  .rename_i y z t t' H N;have W:args=#[y,z]:=by rw[<-QZ (xs:=args),H]
   have R:T=#[t,t']:=by rw[<-QZ (xs:=T),N]
   subst W R;split at d
   .rename_i e D;simp only[Qi,Qd]at d;obtain⟨i,hi,zv,hzv,d⟩:=d;split at d
    .rename_i R;obtain⟨rfl,b2,b3⟩:=R;simp[Qd,Qb]at d;obtain⟨F,p,J,B,rfl⟩:=d
     cases hf:Pm hs o with
     |false=>rw[hf]at q;exact(PO h U j D hi hzv b2 b3 p B q).wp m r A
     |true=>rw[hf]at q;obtain⟨id,ab,es,g1,rfl,rfl,g2⟩:=O6 q;exact((PO h U j D hi hzv b2 b3 p B g1).Ae g2).wp m r A
    .cases d
   .cases d
  .rename_i y t H N;have W:args=#[y]:=by rw[<-QZ (xs:=args),H]
   have R:T=#[t]:=by rw[<-QZ (xs:=T),N]
   subst W R;split at d
   .rename_i e D;simp[Qi,Qd,Qb]at d;obtain⟨i,hi,z,B,F,p,rfl⟩:=d;exact(Sl h j D hi B p q).wp m r A
   .cases d
  .rename_i y z H;have W:args=#[y,z]:=by rw[<-QZ (xs:=args),H]
   subst W;simp[Qi,Qd,Qb]at d;obtain⟨F,p,J,B,rfl⟩:=d;exact(JZ (mx:=false) h (by simpa using j) p B q).wp m r A
  .rename_i y z H;have W:args=#[y,z]:=by rw[<-QZ (xs:=args),H]
   subst W;simp[Qi,Qd,Qb]at d;obtain⟨F,p,J,B,rfl⟩:=d;exact(JZ (mx:=true) h (by simpa using j) p B q).wp m r A
  .cases d
 case h_24 t y i j=>
  split at d
  .rename_i fs D;split at d
   .rename_i f hf;simp[Qi,Qd,Qb]at d;obtain⟨n,U,F,p,rfl⟩:=d;exact(Vw h j D hf U p q).wp m r A
   .cases d
  .cases d
 case h_25 t y j=>
  split at d
  .rename_i ht;simp only[Qi,Qd,Qb]at d;obtain⟨F,p,rfl⟩:=d;exact(Vs h j ht p q).wp m r A
  .cases d
 case h_26 y t0 t j=>
  split at d
  .cases d
  .rename_i u i hni D hi;simp only[Qi,Qd,Qb]at d;obtain⟨zv,B,zp,hzp,F,p,rfl⟩:=d;exact(Vm h j D (λms e=>by subst e;exact hni _ rfl) hi B hzp p q).wp m r A
  .cases d
 case h_27 t y j=>simp only[Qi,Qd,Qb]at d;obtain⟨F,p,rfl⟩:=d;exact(Vp h j p q).wp m r A
 case h_28 t j=>
  injection d with d
  subst d;exact(Vr h j q).wp m r A
 case h_29 j=>
  injection d with d
  subst d;cases q
 case h_30 j=>
  injection d with d
  subst d;cases q
 case h_31=>cases d
end
end
section
open Go.RowKit
def mN(P:Pr)(hs:Z Nat)(ops:Array Oper)(o:Oper):Y SG:=
 match xv P hs o with
 |none=>none
 |some s=>
  match o.guard with
  |none=>some ⟨o.dst,none,s⟩
  |some (j,want)=>
   match ops[j]? with
   |none=>none
   |some b=>
    match b.dst with
    |none=>none
    |some t=>some ⟨o.dst,some (t,want),s⟩
section
variable{P:Pr}{E:En}{S:St}{a:Act}{w:Wo}{L:Nat->Va}{Γ:gW}{hs:Z Nat}
def CW{ops:Array Oper}{o:Oper}{g:SG}(h:mN P hs ops o=some g):xv P hs o=some g.op/\g.d=o.dst/\
  ((o.guard=none/\g.g=none)\/∃j b c t,o.guard=some (j,b)/\ops[j]?=some c/\c.dst=some t/\g.g=some (t,b)):=by
 unfold mN at h
 grind
def H5{ops:Array Oper}{o:Oper}{g:SG}(h:Rel E S a w L)(n:mN P hs ops o=some g){b:Bool}(c:g.wanted S=some b):Region.wanted o (yielded ops a.tmps)=b:=by
 let⟨_,_,m⟩:=CW n
 unfold SG.wanted at c;rcases m with⟨h1,i⟩|⟨j,want,r,t,h1,i,l,p⟩
 .rw[i]at c;injection c with c
  subst c;simp[Region.wanted,h1]
 .rw[p]at c;simp only at c;have f:=h.env t;split at c
  .rename_i q k;rw[k]at f;have d:=f.iK;injection c with c
   subst c
   have:a.tmps[t]?=some (.bool q):=by
    rw[Qy]at d
    cases e:a.tmps[t]? with
    |none=>rw[e]at d;simp[undef]at d
    |some v=>rw[e]at d;simp at d;rw[d]
   simp[Region.wanted,h1,yielded,i,l,this]
  .rename_i k;rw[k]at f;have d:=f.Ns;injection c with c
   subst c
   have:yielded ops a.tmps j=none:=by
    simp[yielded,i,l,QM];rw[Qy]at d
    cases e:a.tmps[t]? with
    |none=>rfl
    |some v=>rw[e]at d;simp at d;rw[d];rfl
   simp[Region.wanted,h1,this]
  .cases c
def qL(j:fQ P Γ){ops:Array Oper}{o:Oper}{g:SG}(d:mN P hs ops o=some g)(h:Rel E S a w L){nid:Nat}(m:nid<S.N)(k:∀t,o.dst=some t->E.can t){S':St}(hs:pz Γ nid S g=some S'){K:Act->Wo->Prop}{Q:Exit->Act->Wo->Prop}
  (i:∀a' w' l,Rel E S' a' w' l->K a' w'):if Region.wanted o (yielded ops a.tmps)=true then o.wpIn (WF E.rd) 0 P a w K Q else(∀f,o.about P w a.eval=some f->(WF E.rd).fn f)/\K (a.put o.dst undef) w:=by
 let⟨e,c,_⟩:=CW d
 unfold pz at hs;split at hs
 .rename_i b;rw[H5 h d b,Qc rfl];simp only[Qh]at hs
  grind [My]
 .rename_i b;rw[H5 h d b,Qg t_];injection hs with hs
  subst hs;rw[c]at i;exact⟨λ_ _=>trivial,i _ _ _ (h.Mh k .undef)⟩
 .cases hs
def St.wI(S:St)(d:Y Nat)(x:PV)(wr:Y (Nat×dg)):(S.bA d x wr).N=S.N:=rfl
def Pt{nid:Nat}{g:SG}{S':St}(hs:pz Γ nid S g=some S'):S'.N=S.N:=by
 unfold pz at hs;split at hs
 .simp only[Qh]at hs;obtain⟨p,_,rfl⟩:=hs;rfl
 .cases hs;rfl
 .cases hs
def AG(c:fQ P Γ){ops:Array Oper}:∀(l:Z Oper) (d:Z SG) (nid:Nat) (S S':St) (a:Act) (w:Wo) (L:Nat->Va),l.mapM (mN P hs ops)=some d->Rel E S a w L->nid+l.length<=S.N->
  (∀o∈l,∀t,o.dst=some t->E.can t)->vm Γ nid d S=some S'->∀{Q:Exit->Act->Wo->Prop},(∀a' w' n,Rel E S' a' w' n->Q .normal a' w')->wpListIn (WF E.rd) 0 P ops Q l a w
 |[],d,nid,S,S',a,w,L,hm,h,k,i,b,Q,j=>by simp at hm;subst hm;simp[vm,Qb]at b;subst b;exact j a w L h
 |o::l,d,nid,S,S',a,w,L,hm,h,k,i,b,Q,j=>by
  simp[QH,Qi,Qd,QO,Qb]at hm;obtain⟨g,q,m,f,rfl⟩:=hm;simp[vm]at b;split at b
  .rename_i S1 hs;refine qaK λK r=> ?_
   refine qL c q h (by simp at k;omega) (i o t_) hs (λa' w' n s=>r _ _ ?_)
   exact AG c l m (nid+1) S1 S' a' w' n f s (by rw[Pt hs];simp at k;omega) (λp e=>i p (by simp[e])) b j
  .cases b
inductive SC where
 |skip
 |lZ (ops:List SG)
 |jl (un:List (Nat×Nat)) (ops:List SG)
 |seq (x y:SC)
 |cond (c:aQ) (x y:SC)
 |block (id:Nat) (c:SC)
 |loop (c:SC)
 |zA (g:aQ) (ps:List Nat) (x y:SC)
 |exit (id:Nat)
 |ret
def gN:Code->Z Nat
 | .region _ ops _=>ops.toList.filterMap (·.dst)
 | .seq x y| .cond _ x y=>gN x++gN y
 | .block _ c| .loop c=>gN c
 | .rangeFunc _ ps x y=>ps.toList++gN x++gN y
 |_=>[]
def ql:Code->Bool
 | .seq x y| .cond _ x y=>ql x&&ql y
 | .block _ c| .loop c=>ql c
 | .rangeFunc ..=>false
 |_=>true
def yN(E:En)(c:Code):Prop:=(∀t∈gN c,E.kt t=none)/\((E.rd=none/\E.nd=false/\∀id,E.gy id=none)\/ql c=true)
def yN.Te{E:En}{x y:Code}(h:yN E (.seq x y)):yN E x:=⟨λt b=>h.1 t (List.mem_append_left _ b),h.2.imp id λe=>by simp[ql,Qa]at e;exact e.1⟩
def yN.Td{E:En}{x y:Code}(h:yN E (.seq x y)):yN E y:=⟨λt b=>h.1 t (List.mem_append_right _ b),h.2.imp id λe=>by simp[ql,Qa]at e;exact e.2⟩
def yN.PW{E:En}{c:Od}{x y:Code}(h:yN E (.cond c x y)):yN E x:=⟨λt b=>h.1 t (List.mem_append_left _ b),h.2.imp id λe=>by simp[ql,Qa]at e;exact e.1⟩
def yN.PU{E:En}{c:Od}{x y:Code}(h:yN E (.cond c x y)):yN E y:=⟨λt b=>h.1 t (List.mem_append_right _ b),h.2.imp id λe=>by simp[ql,Qa]at e;exact e.2⟩
def GJ{E:En}{id:Nat}{ops:Array Oper}{d:Bool}{nt:Nat}(g:E.nt=nt)(e:yN E (.region id ops d))(f:∀o∈ops.toList,∀t,o.dst=some t->t<nt):∀o∈ops.toList,∀t,o.dst=some t->E.can t:=
 λo c t b=>⟨by rw[g];exact f o c t b,e.1 t (List.mem_filterMap.2 ⟨o,c,b⟩)⟩
def V(P:Pr)(nt:Nat)(c:Code)(Q:Exit->St->Prop)(S:St):Prop:=
 ∀(E:En),E.nt=nt->yN E c->∀(a:Act) (w:Wo) (L:Nat->Va),Rel E S a w L->c.wpIn (WF E.rd) 0 P (λe a' w'=>∃S' b,Rel E S' a' w' b/\Q e S') a w
def V.mono{nt:Nat}{c:Code}{Q Q':Exit->St->Prop}(h:V P nt c Q S)(d:∀e S,Q e S->Q' e S):V P nt c Q' S:=
 λE g f a w L b=>Q6 (h E g f a w L b) λ_ _ _ ⟨S',j,h1,i⟩=>⟨S',j,h1,d _ _ i⟩
def Hr(K:St->Prop)(Q:Exit->St->Prop):Exit->St->Prop
 | .normal,S=>K S
 | .exit i,S=>Q (.exit i) S
 | .goto l,S=>Q (.goto l) S
 | .ret,S=>Q .ret S
 | .panic c,S=>Q (.panic c) S
 | .outgrown,S=>Q .outgrown S
def Ah(id:Nat)(Q:Exit->St->Prop):Exit->St->Prop
 | .exit i,S=>if i=id then Q .normal S else Q (.exit i) S
 | .normal,S=>Q .normal S
 | .goto l,S=>Q (.goto l) S
 | .ret,S=>Q .ret S
 | .panic c,S=>Q (.panic c) S
 | .outgrown,S=>Q .outgrown S
def UJ{nt:Nat}{Q:Exit->St->Prop}(h:Q .normal S):V P nt .skip Q S:=λ_ _ _ _ _ L b=>wpIn_skip ⟨S,L,b,h⟩
def UK{nt id:Nat}{Q:Exit->St->Prop}(h:Q (.exit id) S):V P nt (.exit id) Q S:=λ_ _ _ _ _ L b=>wpIn_exit ⟨S,L,b,h⟩
def VF{nt:Nat}{Q:Exit->St->Prop}(h:Q .ret S):V P nt .ret Q S:=λ_ _ _ _ _ L b=>wpIn_ret ⟨S,L,b,h⟩
def VE{nt:Nat}{x y:Code}{Q:Exit->St->Prop}(h:V P nt x (Hr (V P nt y Q) Q) S):V P nt (.seq x y) Q S:=λE g f a w L j=>
 qay (Q6 (h E g f.Te a w L j) λe a' w' ⟨S',d,h1,b⟩=>by
  cases e with
  |normal=>exact b E g f.Td a' w' d h1
  |exit i|goto l|ret|panic c=>exact⟨S',d,h1,b⟩
  |outgrown=>exact⟨S',d,h1,b⟩)
def UL{nt:Nat}{c:Od}{f:aQ}{x y:Code}{b:Bool}{Q:Exit->St->Prop}(g:aM c=some f)(i:f.val S= .bool b)(h:V P nt (if b then x else y) Q S):V P nt (.cond c x y) Q S:=λE j e a w L d=>by
 have:=d.dK g;rw[i]at this
 exact qa4 this.iK (h E j (by
  cases b
  .exact e.PU
  .exact e.PW) a w L d)
def SL{nt id:Nat}{c:Code}{Q:Exit->St->Prop}(h:V P nt c (Ah id Q) S):V P nt (.block id c) Q S:=λE j g a w L f=>
 wpIn_block (Q6 (h E j g a w L f) λe a' w' ⟨S',d,h1,b⟩=>by
  cases e with
  |exit i=>
   simp[Ah]at b;simp only[Exit.inBlock];split
   .rename_i hi;rw[Qc hi]at b;exact⟨S',d,h1,b⟩
   .rename_i hi;rw[Qg hi]at b;exact⟨S',d,h1,b⟩
  |normal|goto l|ret|panic c=>exact⟨S',d,h1,b⟩
  |outgrown=>exact⟨S',d,h1,b⟩)
def mS{α β:Type}{f:α->Y β}:∀{l:Z α} {r:Z β},l.mapM f=some r->r.length=l.length
 |[],r,h=>by simp at h;subst h;rfl
 |x::l,r,h=>by simp[QH,Qi,Qd,QO,Qb]at h;obtain⟨y,_,c,b,rfl⟩:=h;simp[mS b]
def PV.iN(n:Nat):PV->Bool
 | .own id _| .ptr id _ _| .cp id _ _ _ _| .view id _ _ _ _=>decide (id<n)
 | .agg _| .cg _| .aT _ _| .fe _ _=>false
 |_=>true
def PV.under(n:Nat):PV->Bool
 | .agg cs| .cg cs| .aT _ cs| .fe _ cs=>cs.all (PV.iN n)
 |x=>x.iN n
def ji.under(n:Nat):ji->Bool
 | .dead=>true
 | .box cs=>cs.all (PV.under n)
 | .row _ _ es=>es.all λe=>e.all (PV.under n)
def aJ.iN{M M':Nat->Prop}{G G':Gh}{x:PV}{v:Va}(f:x.iN G'.N=true)(r:∀b,M' b->M b)(s:G'.L=G.L)(m:∀id,id<G'.N->G'.V id=G.V id)(h:aJ w M G x v):aJ w M' G' x v:=by
 have hs:bN w w M M':=(bN.of λ_ t=>λq=>t (r _ q))
 cases h with
 |any=>exact .any _
 |undef=>exact .undef
 |int=>exact .int _ _
 |bool=>exact .bool _
 |dI=>first|exact .dI _|simp[PV.closed]at K
 |str=>exact .str _
 |fF=>exact .fF
 |cu=>exact .cu
 |aT|fe|agg|cg=>simp[PV.iN]at f
 |ptr id ab off a A g h=>simp[PV.iN,QB]at f;exact .ptr _ _ _ _ f (by rw[m id f];exact g) (λe=>by rw[s];exact h (by rw[e,m id f]))
 |ref cs ad vs y d h=>exact .ref cs ad vs y (λi u l=>⟨(d i u l).1,λq=>(d i u l).2 (r _ q)⟩) (λi p u j l=>(h i p u j l).mono hs (Gh.le.refl _))
 |sl es ad c k vs hk y d h F t=>exact .sl es ad c k vs hk y (λi u l=>⟨(d i u l).1,λq=>(d i u l).2 (r _ q)⟩) (λi p u j l=>(h i p u j l).mono hs (Gh.le.refl _)) F t
 |slnil=>exact .slnil
 |own id ab a n c A g h=>simp[PV.iN,QB]at f;exact .own _ _ _ _ _ f (by rw[m id f];exact g) (λe=>by rw[s];exact h (by rw[e,m id f]))
 |cp id ab k i off a A g h=>simp[PV.iN,QB]at f;exact .cp _ _ _ _ _ _ f (by rw[m id f];exact g) (λe=>by rw[s];exact h (by rw[e,m id f]))
 |view id ab k lo n a c A g h=>simp[PV.iN,QB]at f;exact .view _ _ _ _ _ _ _ f (by rw[m id f];exact g) (λe=>by rw[s];exact h (by rw[e,m id f]))
 |qm=>exact .qm
 |rM T v=>exact .rM T v
 |fH T x v j h=>exact .fH T x v j (h.plain j)
 |gm ks us b es J H B hk D h1 I=>exact .gm ks us b es J H (λq=>B (r _ q)) hk D (λi p e j z=>(h1 i p e j z).mono hs (Gh.le.refl _)) (λi p e j z=>(I i p e j z).mono hs (Gh.le.refl _))
def aJ.under{M M':Nat->Prop}{G G':Gh}{x:PV}{v:Va}(d:x.under G'.N=true)(j:∀b,M' b->M b)(k:G'.L=G.L)(g:∀id,id<G'.N->G'.V id=G.V id)(h:aJ w M G x v):aJ w M' G' x v:=by
 have go:∀{cs:Z PV} {vs:Z Va},cs.all (PV.iN G'.N)=true->aK w M G cs vs->aK w M' G' cs vs:=λm h=>⟨h.1,λi y v e l=>(h.2 i y v e l).iN (Qe.1 m y (QD e)) j k g⟩
 cases x with
 |agg cs=>obtain⟨vs,rfl,c⟩:=h.lL;have:=go (by simpa[PV.under]using d) c;exact .agg _ _ this.1 this.2
 |cg cs=>obtain⟨vs,rfl,c⟩:=h.zy;have:=go (by simpa[PV.under]using d) c;exact .cg _ _ this.1 this.2
 |aT f cs=>obtain⟨vs,rfl,c⟩:=h.oQ;have:=go (by simpa[PV.under]using d) c;exact .aT _ _ _ this.1 this.2
 |fe f cs=>obtain⟨vs,rfl,c⟩:=h.HW;have:=go (by simpa[PV.under]using d) c;exact .fe _ _ _ this.1 this.2
 |_=>exact h.iN (by simpa[PV.under]using d) j k g
end
end
section
open Go.RowKit
def aQ.bz:aQ->Z Nat
 | .tmp t=>[t]
 | .qP _=>[]
def bV.bz:bV->Z Nat
 | .jR x| .box x| .C0 x| .load _ x| .si _ x| .not x| .conv _ x| .len _ x| .tZ x| .CP _ x| .rZ _ x
 | .clear _ _ x
 | .Iu _ _ x=>x.bz
 | .pick c x y=>c.bz++x.bz++y.bz
 | .alloc _=>[]
 | .store _ p x=>p.bz++x.bz
 | .build _ ps=>ps.flatMap λp=>p.2.2.bz
 | .GL _ _ _ _ ps=>ps.flatMap λp=>p.2.bz
 | .mq _ x i=>x.bz++i.bz
 | .bin _ x y| .oe _ x y| .CQ _ _ x y| .Gy _ x y| .rN _ x y| .C4 _ _ _ _ x y
 =>x.bz++y.bz
 | .call _ xs=>xs.flatMap aQ.bz
 | .lp f xs=>f.bz++xs.flatMap aQ.bz
 | .bA _ _ _ _ s x=>s.bz++x.bz
 | .Il _ b| .Im _ b| .lf _ b=>b.flatMap aQ.bz
 | .F1 _ _ _ _ l c=>l.bz++c.bz
 | .B2 _ x lo hi=>x.bz++(match lo with|some l=>l.bz|none=>[])++(match hi with|some h=>h.bz|none=>[])
def SG.bz(g:SG):Z Nat:=(match g.g with|some (t,_)=>[t]|none=>[])++g.op.bz
def qx:PV->Z Nat
 | .own id _| .ptr id _ _| .cp id _ _ _ _| .view id _ _ _ _=>[id]
 |_=>[]
def dx(H:Nat->dg):Nat->PV->Z Nat
 |0,_=>[]
 |n+1,.own id _=>id::(match(H id).c with| .row _ _ es=>es.flatMap (λe=>e.flatMap (dx H n))|_=>[])
 |n+1,.ptr id _ _=>id::(match(H id).c with| .box cs=>cs.flatMap (dx H n)|_=>[])
 |n+1,.agg cs|n+1,.cg cs|n+1,.aT _ cs|n+1,.fe _ cs=>cs.flatMap (dx H n)
 |_+1,_=>[]
def eN(nid:Nat)(S:St):bV->Z Nat
 | .load _ p| .si _ p| .tZ p| .store _ p _=>qx (p.val S)
 | .mq _ x _| .len false x| .rZ _ x| .B2 _ x _ _
 | .clear _ _ x
 =>qx (x.val S)
 | .box _| .alloc _| .GL ..| .F1 ..=>[nid]
 | .bA _ _ _ _ s x=>nid::(qx (s.val S)++qx (x.val S))
 | .call _ xs=>nid::(xs.map (·.val S)).flatMap (dx S.H 9)
 | .lp f xs=>nid::(dx S.H 10 (f.val S)++(xs.map (·.val S)).flatMap (dx S.H 9))
 |_=>[]
section
variable{Γ:gW}{S S':St}{nid:Nat}
theorem aQ.val_congr{x:aQ}(h:∀t∈x.bz,S'.env t=S.env t):x.val S'=x.val S:=by
 cases x with
 |tmp t=>exact h t (by simp[aQ.bz])
 |qP v=>rfl
theorem mi{xs:Z aQ}(h:∀t∈xs.flatMap aQ.bz,S'.env t=S.env t):xs.map (·.val S')=xs.map (·.val S):=
 QU λx b=>aQ.val_congr λt c=>h t (qal.2 ⟨x,b,c⟩)
def J2{H b:Nat->dg}{ex:Y Nat}:∀(n:Nat) (x:PV),(∀id∈dx H n x,b id=H id)->fz b ex n x=fz H ex n x
 |0,x,_=>by cases x<;>simp[fz]
 |n+1,x,h=>by
  have go:∀cs:Z PV,(∀id∈cs.flatMap (dx H n),b id=H id)->cs.map (fz b ex n)=cs.map (fz H ex n):=λcs c=>QU λy d=>J2 n y λid g=>c id (qal.2 ⟨y,d,g⟩)
  cases x with
  |own id ab=>
   have j:b id=H id:=h id (by simp[dx])
   simp[fz,j];split
   .rfl
   .cases c:(H id).c with
    |row e k es=>
     simp only;congr 1;refine QU λy d=>go y λi hi=>h i ?_
     simp only[dx,c,Qm];exact .inr (qal.2 ⟨y,d,hi⟩)
    |dead|box cs=>rfl
  |ptr id ab off=>
   have j:b id=H id:=h id (by simp[dx])
   simp[fz,j];split
   .rfl
   .cases c:(H id).c with
    |box cs=>simp only;rw[go cs λi hi=>h i (by simp only[dx,c,Qm];exact .inr hi)]
    |dead|row e k es=>rfl
  |agg cs|cg cs|aT f cs=>simp only[fz];rw[go cs (by simpa[dx]using h)]
  |_=>simp[fz]
theorem yr{H c:Nat->dg}{ex:Y Nat}{xs:Z PV}(h:∀id∈xs.flatMap (dx H 9),c id=H id):xs.map (fz c ex 9)=xs.map (fz H ex 9):=
 QU λy d=>J2 9 y λid b=>h id (qal.2 ⟨y,d,b⟩)
theorem CY{f:FI}{args:Z PV}(b:S'.H nid=S.H nid)(h:∀id∈args.flatMap (dx S.H 9),S'.H id=S.H id):ig Γ nid S' f args=ig Γ nid S f args:=by
 have Ob:∀(m:Model) (e k:Nat),tL m e k S' args=tL m e k S args:=by
  intro m e k;unfold tL
  cases args with
  |nil=>rfl
  |cons x rest=>
   cases x with
   |own id ab=>grind [dx,fz,yr]
   |_=>rfl
 have GD:∀(m:Model) (e k:Nat),tK m e k S' args=tK m e k S args:=by
  intro m e k;unfold tK
  cases args with
  |nil=>rfl
  |cons x rest=>
   cases x with
   |own id ab=>grind [dx,fz,yr]
   |_=>rfl
 unfold ig
 cases hm:Γ f with
 |none=>rfl
 |some m=>
  simp[Ob,GD,Ag,b,yr (ex:=none) h];split
  .rfl
  .rfl
  .rfl
  split
  .rfl
  split
  .cases d:args[m.pos]? with
   |none=>rfl
   |some x=>
    cases x with
    |ptr id ab off=>
     cases off with
     |zero=>
      have c:PV.ptr id ab 0∈args:=QD d;have g:S'.H id=S.H id:=h id (qal.2 ⟨_,c,by simp[dx]⟩)
      grind [cutAt,fz,yr]
     |succ k=>rfl
    |_=>rfl
  .rfl
def CL:∀(ps:Z (Nat×Nat×aQ)) (cs:Z PV),(∀t∈ps.flatMap (λp=>p.2.2.bz),S'.env t=S.env t)->lJ S' cs ps=lJ S cs ps
 |[],cs,_=>rfl
 |(off,n,x)::ps,cs,h=>by
  have c:x.val S'=x.val S:=aQ.val_congr λt b=>h t (by simp[b])
  simp[lJ,c];split
  .exact CL ps _ λt b=>h t (by simp only[List.flatMap_cons,Qu];exact .inr b)
  .rfl
def CM(k:Nat):∀(ps:Z (Nat×aQ)) (es:Z (Z PV)),(∀t∈ps.flatMap (λp=>p.2.bz),S'.env t=S.env t)->ob S' k es ps=ob S k es ps
 |[],es,_=>rfl
 |(i,x)::ps,es,h=>by
  have c:x.val S'=x.val S:=aQ.val_congr λt b=>h t (by simp[b])
  simp[ob,c];split
  .exact CM k ps _ λt b=>h t (by simp only[List.flatMap_cons,Qu];exact .inr b)
  .rfl
theorem zt{x:PV}(h:∀id∈qx x,S'.H id=S.H id):gM S' x=gM S x:=by
 cases x with
 |own id ab|view id ab k lo n=>have b:S'.H id=S.H id:=h id (by simp[qx]);simp[gM,b]
 |_=>rfl
def FR{y:Y aQ}{d:Int}(h:∀l,y=some l->l.val S'=l.val S):mW S' y d=mW S y d:=by
 cases y with
 |none=>rfl
 |some l=>simp[mW,h l rfl]
theorem Mz{op:bV}(h:∀t∈op.bz,S'.env t=S.env t)(g:∀id∈eN nid S op,S'.H id=S.H id):exec Γ nid S' op=exec Γ nid S op:=by
 cases op with
 |jR x|not x|conv k x|Iu n off x|CP i x=>simp[exec,aQ.val_congr (x:=x) h]
 |pick c x y|bin op x y|oe n x y|Gy n x y|CQ n ks x y|C4 e n len k x y=>grind [aQ.val_congr,bV.bz,exec]
 |box x=>
  have j:x.val S'=x.val S:=aQ.val_congr h
  grind [eN,exec]
 |C0 x=>have j:x.val S'=x.val S:=aQ.val_congr h;simp[exec,j]
 |alloc z=>grind [eN,exec]
 |load n p=>
  have j:p.val S'=p.val S:=aQ.val_congr h;simp[exec,j];simp[eN]at g
  cases A:p.val S with
  |ptr id ab off|cp id ab k i off=>rw[A]at g;have u:S'.H id=S.H id:=g id (by simp[qx]);simp[u]
  |_=>rfl
 |store n p x=>
  have j:p.val S'=p.val S:=aQ.val_congr λt r=>h t (by simp[bV.bz,r])
  have u:x.val S'=x.val S:=aQ.val_congr λt r=>h t (by simp[bV.bz,r])
  simp[exec,j,u];simp only[eN]at g
  cases A:p.val S with
  |ptr id ab off|cp id ab k i off=>rw[A]at g;have F:S'.H id=S.H id:=g id (by simp[qx]);simp[F]
  |_=>rfl
 |build z ps=>simp[exec,CL ps z h]
 |GL m e k z ps=>
  have u:S'.H nid=S.H nid:=g nid (by simp[eN])
  simp[exec,CM k ps z h,u]
 |si off p=>
  have j:p.val S'=p.val S:=aQ.val_congr h;simp[exec,j];simp[eN]at g
  cases A:p.val S with
  |ptr id ab off|cp id ab k i off=>rw[A]at g;have u:S'.H id=S.H id:=g id (by simp[qx]);simp[u]
  |_=>rfl
 |mq k x i=>
  have j:x.val S'=x.val S:=aQ.val_congr λt r=>h t (by simp[bV.bz,r])
  have u:i.val S'=i.val S:=aQ.val_congr λt r=>h t (by simp[bV.bz,r])
  simp[exec,j,u];simp[eN]at g
  cases A:x.val S with
  |own id ab|view id ab k lo n=>rw[A]at g;have F:S'.H id=S.H id:=g id (by simp[qx]);simp[F]
  |_=>rfl
 |lf q xs=>simp only[exec,mi h]
 |len b x=>
  have j:x.val S'=x.val S:=aQ.val_congr h
  cases b with
  |true=>simp[exec,j]
  |false=>simp[exec,j];rw[zt (by simpa[eN]using g)]
 |call f xs=>simp only[exec,mi h];exact CY (g nid (by simp[eN])) λid D=>g id (by simp only[eN,Qm];exact .inr D)
 |lp N xs=>
  have j:N.val S'=N.val S:=aQ.val_congr λt r=>h t (by simp[bV.bz,r])
  have u:xs.map (·.val S')=xs.map (·.val S):=mi λt r=>h t (by simp only[bV.bz,Qu];exact .inr r)
  simp[exec,j,u];simp[eN]at g
  cases A:N.val S with
  |aT f B|fe f first=>grind [CY,dx]
  |_=>rfl
 |bA z e k b s x=>
  have j:s.val S'=s.val S:=aQ.val_congr λt r=>h t (by simp[bV.bz,r])
  have u:x.val S'=x.val S:=aQ.val_congr λt r=>h t (by simp[bV.bz,r])
  have F:S'.H nid=S.H nid:=g nid (by simp[eN])
  have K:gM S' (x.val S)=gM S (x.val S):=zt λid D=>g id (by simp[eN,D])
  simp[exec,j,u,F,K]
  cases A:s.val S with
  |own id ab=>have J:S'.H id=S.H id:=g id (by simp[eN,A,qx]);simp[J]
  |_=>rfl
 |tZ x=>
  have j:x.val S'=x.val S:=aQ.val_congr h;simp[exec,j];simp[eN]at g
  cases A:x.val S with
  |ptr id ab off|cp id ab k i off=>rw[A]at g;have u:S'.H id=S.H id:=g id (by simp[qx]);simp[u]
  |_=>rfl
 |Il f B|Im f B=>simp[exec,mi h]
 |F1 e k b z l c=>grind [aQ.val_congr,bV.bz,eN,exec]
 |B2 k x lo hi=>
  have j:x.val S'=x.val S:=aQ.val_congr λt r=>h t (by simp[bV.bz,r])
  have u:∀l,lo=some l->l.val S'=l.val S:=λl H=>aQ.val_congr λt r=>h t (by simp[bV.bz,H,r])
  have F:∀l,hi=some l->l.val S'=l.val S:=λl H=>aQ.val_congr λt r=>h t (by simp[bV.bz,H,r])
  simp[eN]at g;simp[exec,j];have K:∀d,mW S' lo d=mW S lo d:=λd=>FR u
  have J:∀d,mW S' hi d=mW S hi d:=λd=>FR F
  cases A:x.val S with
  |own id ab|view id ab k lo n=>rw[A]at g;have I:S'.H id=S.H id:=g id (by simp[qx]);simp[K,J,I]
  |sl es=>cases lo<;>cases hi<;>simp_all
  |_=>rfl
 |clear k z x=>
  have j:x.val S'=x.val S:=aQ.val_congr h;simp[eN]at g;simp[exec,j]
  cases A:x.val S with
  |view id ab k lo n=>rw[A]at g;have I:S'.H id=S.H id:=g id (by simp[qx]);simp[I]
  |_=>rfl
 |rN m x y=>
  have j:x.val S'=x.val S:=aQ.val_congr λt r=>h t (by simp[bV.bz,r])
  have u:y.val S'=y.val S:=aQ.val_congr λt r=>h t (by simp[bV.bz,r])
  simp[exec,j,u]
 |rZ n x=>
  have j:x.val S'=x.val S:=aQ.val_congr h
  grind [gM,zt,eN,exec]
def oM{α β:Type}{f g:α->Z β}:∀{l:Z α},(∀x∈l,f x=g x)->l.flatMap f=l.flatMap g
 |[],_=>rfl
 |x::l,h=>by simp[List.flatMap_cons];rw[h x t_,oM λy b=>h y (by simp[b])]
theorem AI{H b:Nat->dg}:∀(n:Nat) (x:PV),(∀id∈dx H n x,b id=H id)->dx b n x=dx H n x
 |0,x,_=>by simp[dx]
 |n+1,x,h=>by
  have go:∀cs:Z PV,(∀id∈cs.flatMap (dx H n),b id=H id)->cs.flatMap (dx b n)=cs.flatMap (dx H n):=λcs c=>oM λy d=>AI n y λid g=>c id (qal.2 ⟨y,d,g⟩)
  cases x with
  |own id ab=>
   have j:b id=H id:=h id (by simp[dx])
   simp only[dx,j]
   cases c:(H id).c with
   |row e k es=>
    simp only;congr 1;refine oM λy d=>go y λi hi=>h i ?_
    simp only[dx,c,Qm];exact .inr (qal.2 ⟨y,d,hi⟩)
   |dead|box cs=>rfl
  |ptr id ab off=>
   have j:b id=H id:=h id (by simp[dx])
   simp only[dx,j]
   cases c:(H id).c with
   |box cs=>simp only;rw[go cs λi hi=>h i (by simp only[dx,c,Qm];exact .inr hi)]
   |dead|row e k es=>rfl
  |agg cs|cg cs|aT f cs|fe f cs=>simp[dx];exact go cs (by simpa[dx]using h)
  |_=>simp[dx]
theorem Ej{H c:Nat->dg}{n:Nat}{xs:Z PV}(h:∀id∈xs.flatMap (dx H n),c id=H id):xs.flatMap (dx c n)=xs.flatMap (dx H n):=
 oM λy d=>AI n y λid b=>h id (qal.2 ⟨y,d,b⟩)
theorem Ma{op:bV}(c:∀t∈op.bz,S'.env t=S.env t)(h:∀id∈eN nid S op,S'.H id=S.H id):eN nid S' op=eN nid S op:=by
 cases op with
 |load n p|si off p|tZ p=>simp[eN,aQ.val_congr (x:=p) c]
 |store n p x|mq k x i|bA z e k b s x=>grind [aQ.val_congr,bV.bz,eN]
 |rZ n x|clear k z x=>simp[eN,aQ.val_congr (x:=x) c]
 |B2 k x lo hi=>
  have g:x.val S'=x.val S:=aQ.val_congr λt d=>c t (by simp[bV.bz,d])
  simp[eN,g]
 |len b x=>
  cases b with
  |true=>rfl
  |false=>simp[eN,aQ.val_congr (x:=x) c]
 |call f xs=>
  simp[eN,mi c]
  grind [Ej,eN]
 |lp j xs=>grind [aQ.val_congr,bV.bz,mi,eN,AI,Ej]
 |_=>rfl
def og(Γ:gW)(nid:Nat)(S:St)(g:SG):Y (PV×Y (Nat×dg)):=
 match g.wanted S with
 |some true=>exec Γ nid S g.op
 |some false=>some (.undef,none)
 |none=>none
def Ad(nid:Nat)(S:St)(g:SG):Z Nat:=
 match g.wanted S with
 |some true=>eN nid S g.op
 |_=>[]
def Lh(g:SG):pz Γ nid S g=(og Γ nid S g).map λp=>S.bA g.d p.1 p.2:=by grind [pz,og]
theorem BX{g:SG}(b:∀t∈g.bz,S'.env t=S.env t):g.wanted S'=g.wanted S:=by grind [SG.wanted,SG.bz]
def CS{g:SG}(b:∀t∈g.bz,S'.env t=S.env t)(c:∀id∈Ad nid S g,S'.H id=S.H id):og Γ nid S' g=og Γ nid S g:=by grind [og,BX,Ad,Mz,SG.bz]
def CH{g:SG}(b:∀t∈g.bz,S'.env t=S.env t)(c:∀id∈Ad nid S g,S'.H id=S.H id):Ad nid S' g=Ad nid S g:=by grind [Ad,BX,Ma,SG.bz]
structure dV where
 d:Option Nat
 us:List Nat
 rd:List Nat
 wr:Option Nat
structure Bu (p q:dV):Prop where
 d1:∀t,p.d=some t->t∉q.us
 d2:∀t,q.d=some t->t∉p.us
 dd:∀t,p.d=some t->q.d≠some t
 w1:∀i,p.wr=some i->i∉q.rd
 w2:∀i,q.wr=some i->i∉p.rd
 ww:∀i,p.wr=some i->q.wr≠some i
def pn(nid:Nat)(S:St)(g:SG)(p:PV×Y (Nat×dg)):dV:=⟨g.d,g.bz,Ad nid S g,p.2.map (·.1)⟩
def dL(Γs:Nat->gW)(base:Nat):Z (Nat×SG)->St->Y (St×Z dV)
 |[],S=>some (S,[])
 |(i,g)::l,S=>
  match og (Γs i) (base+i) S g with
  |none=>none
  |some p=>
   match dL Γs base l (S.bA g.d p.1 p.2)with
   |none=>none
   |some (S',fs)=>some (S',pn (base+i) S g p::fs)
def St.fc(d:Y Nat)(x:PV)(wr:Y (Nat×dg)){t:Nat}(h:d≠some t):(S.bA d x wr).env t=S.env t:=by
 cases d with
 |none=>rfl
 |some d=>exact bq _ _ (λe=>h (by rw[e]))
def St.Bm(d:Y Nat)(x:PV)(wr:Y (Nat×dg)){i:Nat}(h:wr.map (·.1)≠some i):(S.bA d x wr).H i=S.H i:=by
 cases wr with
 |none=>rfl
 |some p=>exact bq _ _ (λe=>h (by rw[e];rfl))
theorem Oo{α:Type}(f:Nat->α){i j:Nat}(x y:α)(h:i≠j):bd (bd f i x) j y=bd (bd f j y) i x:=by grind [bd]
def St.O7(d e:Y Nat)(x y:PV)(p q:Y (Nat×dg))(c:∀t,d=some t->e≠some t)(b:∀i,p.map (·.1)=some i->q.map (·.1)≠some i):(S.bA d x p).bA e y q=(S.bA e y q).bA d x p:=by
 unfold St.bA
 grind [Oo]
def Ca{Γs:Nat->gW}{base:Nat}:∀(f:Z (Nat×SG)) (i:Nat) (g:SG) (y:Z (Nat×SG)) (S S':St) (fs:Z dV),dL Γs base (f++(i,g)::y) S=some (S',fs)->
  (∀(k:Nat) (fk fi:dV),k<f.length->fs[k]?=some fk->fs[f.length]?=some fi->Bu fk fi)->
  ∃p,og (Γs i) (base+i) S g=some p/\(∀fi,fs[f.length]?=some fi->fi=pn (base+i) S g p)/\dL Γs base (f++y) (S.bA g.d p.1 p.2)=some (S',fs.eraseIdx f.length)
 |[],i,g,y,S,S',fs,h,_=>by
  simp[List.nil_append,dL]at h;split at h
  .cases h
  .rename_i p Q;split at h
   .cases h
   .rename_i S1 d I;injection h with h
    injection h with F H
    subst F H;exact⟨p,Q,λfi c=>by simp at c;exact c.symm,by simpa using I⟩
 |(x,m)::f,i,g,y,S,S',fs,h,hi=>by
  simp[List.cons_append,dL]at h;split at h
  .cases h
  .rename_i px K;split at h
   .cases h
   .rename_i S1 d I;injection h with h
    injection h with F H
    subst F H
    let⟨p,Q,T,r⟩:=Ca f i g y (S.bA m.d px.1 px.2) S1 d I (λk fk fi hk U c=>hi (k+1) fk fi o_ (by simpa using U) (by simpa using c))
    have n:f.length<d.length:=by
     have:∀(l:Z (Nat×SG)) (S:St) (S':St) (fs:Z dV),dL Γs base l S=some (S',fs)->fs.length=l.length:=by
      intro l
      induction l with
      |nil=>intro S S' fs h;simp only[dL,Qb,QX]at h;rw[<-h.2];rfl
      |cons q l ih=>
       intro S S' fs h
       let⟨j,gj⟩:=q
       simp[dL]at h;split at h
       .cases h
       .split at h
        .cases h
        .rename_i S2 fs2 F;injection h with h
         injection h with H h4
         subst h4;simp[ih _ _ _ F]
     rw[this _ _ _ _ I];simp
    have c:=T _ (Qt n);have b:=hi 0 (pn (base+x) S m px) _ t_ t_ (show(pn (base+x) S m px::d)[f.length+1]?=some d[f.length]by rw[List.getElem?_cons_succ];exact Qt n)
    rw[c]at b;have V:∀t∈g.bz,S.env t=(S.bA m.d px.1 px.2).env t:=λt J=>(St.fc _ _ _ (λe=>b.d1 t e J)).symm
    have W:∀id∈Ad (base+i) (S.bA m.d px.1 px.2) g,S.H id=(S.bA m.d px.1 px.2).H id:=λid s=>(St.Bm _ _ _ (λe=>b.w1 id e s)).symm
    have N:og (Γs i) (base+i) S g=some p:=(CS V W).trans Q;have R:=CH (nid:=base+i) V W;have B:∀t∈m.bz,(S.bA g.d p.1 p.2).env t=S.env t:=λt J=>St.fc _ _ _ (λe=>b.d2 t e J)
    have D:∀id∈Ad (base+x) S m,(S.bA g.d p.1 p.2).H id=S.H id:=λid s=>St.Bm _ _ _ (λe=>b.w2 id e s)
    have z:og (Γs x) (base+x) (S.bA g.d p.1 p.2) m=some px:=(CS B D).trans K;have A:=CH (nid:=base+x) B D;have u:(S.bA g.d p.1 p.2).bA m.d px.1 px.2=(S.bA m.d px.1 px.2).bA g.d p.1 p.2:=(St.O7 _ _ _ _ _ _ b.dd b.ww).symm;refine⟨p,N,λfi hf=> ?_,?_⟩
    .have:fi=d[f.length]:=by
      have X:(pn (base+x) S m px::d)[f.length+1]?=some fi:=by simpa using hf
      simp[List.getElem?_cons_succ,Qt n,Qb]at X;exact X.symm
     rw[this,c];simp[pn,R]
    .simp only[List.cons_append,dL,z,u,r,QW,List.eraseIdx_cons_succ];congr 2;simp only[pn,A]
end
section
variable{P:Pr}{E:En}{Γ:gW}{hs:Z Nat}
def tb(M i:Nat):Bool:=Nat.beq (Nat.land 1 (Nat.shiftRight M i)) 1
def Dg(M i:Nat):tb M i=M.testBit i:=by
 have h:Nat.land 1 (Nat.shiftRight M i)=1&&&(M>>>i):=rfl;have b:1&&&(M>>>i)<2:=Nat.lt_succ_of_le Nat.and_le_left;rw[tb,h];show _=(1&&&(M>>>i) !=0);generalize 1&&&(M>>>i)=x at b
 match x,b with
 |0,_|1,_=>rfl
def getM:Z Nat->Nat->Nat
 |[],_=>0
 |x::_,0=>x
 |_::l,n+1=>getM l n
def tF:∀(l:Z Nat) (n:Nat),getM l n=l.getD n 0
 |[],n=>by simp[getM]
 |x::l,0=>rfl
 |x::l,n+1=>by rw[getM,tF l n];rfl
def wE(b:Z Nat):Z Edge->Nat
 |[]=>0
 |e::l=>(match Region.binds .any e with|true=>Nat.lor (Nat.lor (Nat.shiftLeft 1 e.on) (getM b e.on)) (wE b l)|false=>wE b l)
def xA:Z Oper->Z Nat->Z Nat
 |[],acc=>acc
 |o::l,acc=>xA l (acc++[wE acc o.after.toList])
def KY(i j:Nat):(1<<<i).testBit j=decide (j=i):=by
 rw[Nat.one_shiftLeft,Nat.testBit_two_pow]
 grind
def Be{b:Z Nat}{R:Nat->Prop}(f:∀k,R k->∀j,tb (getM b k) j=true->R j):∀(l:Z Edge),(∀e∈l,Region.binds .any e=true->R e.on)->∀j,tb (wE b l) j=true->R j
 |[],_,j,h=>by rw[Dg]at h;simp[wE]at h
 |e::l,d,j,h=>by
  rw[wE]at h;split at h
  .rename_i i;rw[Dg,show Nat.lor (Nat.lor (Nat.shiftLeft 1 e.on) (getM b e.on)) (wE b l)=((1<<<e.on)|||getM b e.on)|||wE b l from rfl,Nat.testBit_or,Nat.testBit_or,Qw,Qw,KY,QB]at h
   rcases h with(h|h)|h
   .rw[h];exact d e Qx i
   .exact f e.on (d e Qx i) j (by rw[Dg];exact h)
   .exact Be f l (λg c=>d g (Qz _ c)) j (by rw[Dg];exact h)
  .exact Be f l (λg c=>d g (Qz _ c)) j h
def Kq:∀(l:Z Oper) (b:Z Nat) (k:Nat),k<b.length->getM (xA l b) k=getM b k
 |[],_,_,_=>rfl
 |o::l,b,k,h=>by
  rw[xA,Kq l _ k (by rw[QY];omega),tF,tF]
  simp[qaM,List.getElem?_append_left h]
def LN{R:Nat->Prop}:∀(l:Z Oper) (b:Z Nat),(∀k,R k->∀j,tb (getM b k) j=true->R j)->(∀k o,l[k]?=some o->R (b.length+k)->∀e∈o.after.toList,Region.binds .any e=true->R e.on)->
  ∀i o,l[i]?=some o->(∀e∈o.after.toList,Region.binds .any e=true->R e.on)->∀j,tb (getM (xA l b) (b.length+i)) j=true->R j
 |[],_,_,_,i,o,hi,_,_,_=>by simp at hi
 |o::l,b,g,n,0,p,hi,he,j,h=>by
  injection hi with hi
  subst hi;rw[xA,Kq l _ _ t_,tF]at h;simp[qaM]at h;exact Be g _ he j h
 |o::l,b,g,n,i+1,p,hi,he,j,h=>by
  rw[xA]at h;refine LN l (b++[wE b o.after.toList]) (λk r j c=> ?_) (λk q t s=>n (k+1) q t (by rw[QY,qbt]at s;rw[show b.length+(k+1)=b.length+1+k by omega];exact s)) i p hi he j (by rw[QY,qbt,show b.length+1+i=b.length+(i+1)by omega];exact h)
  rw[tF,qaM]at c;rcases qao k b.length with d|f
  .rw[List.getElem?_append_left d]at c;exact g k r j (by rw[tF,qaM];exact c)
  .rw[List.getElem?_append_right f]at c;rcases qaS f with d|m
   .rw[qaO o_]at c;rw[Dg]at c;simp at c
   .subst m;rw[Nat.sub_self]at c;exact Be g _ (n 0 o rfl r) j c
def Fy(M j:Nat):Nat->Z (Nat×Nat)->Z (Nat×Nat)
 |0,l=>l
 |i+1,l=>Fy M j i (match tb M i with|true=>l|false=>(i,j)::l)
def Jb:Z Nat->Nat->Z (Nat×Nat)
 |[],_=>[]
 |M::l,j=>Fy M j j (Jb l (Nat.succ j))
def wN(ops:Z Oper):Z (Nat×Nat):=Jb (xA ops []) 0
def Cg{M j:Nat}:∀(n:Nat) (l:Z (Nat×Nat)),(∀p∈l,p∈Fy M j n l)/\∀i,i<n->tb M i=false->(i,j)∈Fy M j n l
 |0,l=>⟨λp b=>b,λi hi=>absurd hi (qaP _)⟩
 |n+1,l=>by
  rw[Fy];have h:=Cg (M:=M) (j:=j) n (match tb M n with|true=>l|false=>(n,j)::l)
  refine⟨λp b=>h.1 p ?_,λi hi d=> ?_⟩
  .split
   .exact b
   .exact Qz _ b
  .rcases qaS (Nat.le_of_lt_succ hi)with c|rfl
   .exact h.2 i c d
   .refine h.1 _ ?_;rw[d];exact Qx
def F2{i:Nat}:∀(l:Z Nat) (j k:Nat),k<l.length->i<j+k->tb (getM l k) i=false->(i,j+k)∈Jb l j
 |[],_,_,h,_,_=>by simp at h
 |M::l,j,0,_,hi,b=>(Cg j _).2 i hi b
 |M::l,j,k+1,hk,hi,b=>by
  have:=F2 l (Nat.succ j) k (by simpa using hk) O b
  rw[show Nat.succ j+k=j+(k+1)by omega]at this
  exact(Cg j _).1 _ this
def Kp:∀(l:Z Oper) (b:Z Nat),(xA l b).length=b.length+l.length
 |[],_=>rfl
 |o::l,b=>by rw[xA,Kp l];simp;omega
def lI(g h:SG):Bool:=
 (match g.d with|some t=> !h.bz.contains t&&h.d !=some t|none=>true)&&(match h.d with|some t=> !g.bz.contains t|none=>true)
def Ab(p q:dV):Bool:=
 (match p.wr with|some i=> !q.rd.contains i&&q.wr !=some i|none=>true)&&(match q.wr with|some i=> !p.rd.contains i|none=>true)
def GF(ops:Z Oper)(b:Z SG):Y (Z (Nat×Nat)):=
 let un:=wN ops
 if un.all (λp=>match b[p.1]?,b[p.2]? with|some g,some h=>lI g h|_,_=>false)&&ops.zipIdx.all (λp=>p.1.after.toList.all λe=> !Region.binds .any e||decide (e.on<p.2))then
  some un
 else none
def Ht(Γs:Nat->gW)(base:Nat)(un:Z (Nat×Nat))(c:Z SG)(S:St):Y St:=
 match dL Γs base (c.zipIdx.map λp=>(p.2,p.1)) S with
 |none=>none
 |some (S',fs)=>if un.all (λp=>match fs[p.1]?,fs[p.2]? with|some a,some b=>Ab a b|_,_=>false)then some S' else none
def wO{Γs:Nat->gW}{base:Nat}:∀(l:Z (Nat×SG)) (S S':St) (fs:Z dV),dL Γs base l S=some (S',fs)->fs.length=l.length/\∀(k i:Nat) (g:SG) (f:dV),l[k]?=some (i,g)->fs[k]?=some f->f.d=g.d/\f.us=g.bz
 |[],S,S',fs,h=>by simp only[dL,Qb,QX]at h;rw[<-h.2];exact⟨rfl,λk i g f b=>by simp at b⟩
 |(j,t)::l,S,S',fs,h=>by
  simp[dL]at h;split at h
  .cases h
  .rename_i p r;split at h
   .cases h
   .rename_i u q n;injection h with h
    injection h with s m
    subst m
    let⟨e,d⟩:=wO l _ _ _ n
    refine⟨by simp[e],λk i g f b c=> ?_⟩
    cases k with
    |zero=>simp[List.getElem?_cons_zero,Qb,QX]at b c;obtain⟨rfl,rfl⟩:=b;subst c;exact⟨rfl,rfl⟩
    |succ k=>exact d k i g f (by simpa using b) (by simpa using c)
def hZ(c:Z SG)(b:Array Bool):Z (Nat×SG):=(c.zipIdx.map λp=>(p.2,p.1)).filter λp=> !b.getD p.1 true
def nS{c:Z SG}{b:Array Bool}{i:Nat}{g:SG}:(i,g)∈hZ c b↔c[i]?=some g/\b.getD i true=false:=by
 unfold hZ;simp only[List.mem_filter,Qq,QX,qa5,QQ]
 grind
def yV(c:Z SG)(b:Array Bool):(hZ c b).Pairwise λp q=>p.1<q.1:=by
 unfold hZ;refine List.Pairwise.filter _ ?_;rw[List.pairwise_map]
 have:∀(l:Z SG) (k:Nat),(l.zipIdx k).Pairwise λp q=>p.2<q.2:=by
  intro l
  induction l with
  |nil=>intro k;simp
  |cons x l d=>
   intro k;rw[List.zipIdx_cons,qab]
   grind
 exact this c 0
def Jv{d:Z SG}{b:Array Bool}{i:Nat}{g:SG}{e l2:Z (Nat×SG)}(hi:i<b.size)(h:hZ d b=e++(i,g)::l2):hZ d (b.setIfInBounds i true)=e++l2:=by
 have c:=yV d b;rw[h]at c
 have l:hZ d (b.setIfInBounds i true)=(hZ d b).filter λp=>decide (p.1≠i):=by
  unfold hZ;rw[List.filter_filter];congr 1
  funext p
  by_cases f:p.1=i
  .rw[f];simp[Qy,qaF hi]
  .have:(b.setIfInBounds i true).getD p.1 true=b.getD p.1 true:=by
    simp[Qy]
    grind
   rw[this];simp[f]
 rw[l,h,List.filter_append,List.filter_cons];simp[ne_eq,qaH,decide_false,QR,QE];rw[qau]at c
 let⟨_,s2,j⟩:=c
 rw[qab]at s2;rw[List.filter_eq_self.2,List.filter_eq_self.2]
 .grind
 .intro q k;have:=j q k (i,g) t_;simp only at this;simp;omega
structure uP (T:Nat->Bool) (gs:List SG) (listed:Array Bool) (l:List (Nat×SG)):Prop where
 mem:∀p,p∈l↔gs[p.1]?=some p.2/\listed.getD p.1 true=false/\T p.1=true
 nd:l.Pairwise λp q=>p.1≠q.1
def Tl(c:Z SG)(b:Array Bool):uP (λ_=>true) c b (hZ c b):=
 ⟨λp=>by rw[show p=(p.1,p.2)from rfl,nS];simp,(yV c b).imp λh=>qaj h⟩
def xt{b:Array Bool}{m j:Nat}(h:j≠m):(b.setIfInBounds m true).getD j true=b.getD j true:=by simp[Qy];rw[qaT (λe=>h e.symm)]
def Is{b:Array Bool}{m:Nat}(h:m<b.size):(b.setIfInBounds m true).getD m true=true:=by rw[Qy,qaF h];rfl
def uP.set{T:Nat->Bool}{r:Z SG}{b:Array Bool}{i:Nat}{g:SG}{k j:Z (Nat×SG)}(hi:i<b.size)(h:uP T r b (k++(i,g)::j)):uP T r (b.setIfInBounds i true) (k++j):=by
 obtain⟨hm,n⟩:=h;rw[qau,qab]at n;obtain⟨u,⟨t,s⟩,m⟩:=n
 have l:∀p∈k++j,p.1≠i:=λp c=>by
  rcases Qu.1 c with c|c
  .exact m p c (i,g) Qx
  .exact(t p c).symm
 refine⟨λp=>⟨λc=> ?_,λ⟨h1,f,z⟩=> ?_⟩,qau.2 ⟨u,s,λp c q y=>m p c q (Qz _ y)⟩⟩
 .rw[xt (l p c)];exact(hm p).1 (by rcases Qu.1 c with c|c<;>simp[c])
 .have d:p.1≠i:=λe=>by rw[e,Is hi]at f;cases f
  rw[xt d]at f;have:=(hm p).2 ⟨h1,f,z⟩;rcases Qu.1 this with h|h
  .exact List.mem_append_left _ h
  .rcases Qm.1 h with h|h
   .exact absurd (QL Prod.fst h) d
   .exact List.mem_append_right _ h
def gy(ops:Z Oper)(i j:Nat):Bool:=tb (getM (xA ops []) i) j
def Hn(ops:Z Oper)(l:Z (Nat×SG))(fs:Z dV):Prop:=
 ∀(a b:Nat) (p q:Nat×SG) (f h:dV),a<b->l[a]?=some p->l[b]?=some q->fs[a]?=some f->fs[b]?=some h->gy ops q.1 p.1=false->Bu f h
structure sy (ops:Array Oper) (T:Nat->Bool) (listed:Array Bool):Prop where
 size:listed.size=ops.size
 cl:∀i o,ops[i]?=some o->listed.getD i true=true->∀e∈o.after,Region.binds .any e=true->listed.getD e.on true=true
 t:∀i,i<ops.size->T i=false->listed.getD i true=false
def Cc{ops:Array Oper}{T:Nat->Bool}{b:Array Bool}(s:sy ops T b)(g:∀i o,ops[i]?=some o->∀e∈o.after,Region.binds .any e=true->e.on<i){i:Nat}(hi:i∈Region.ready .any ops b):
  ∃h:i<ops.size,b.getD i true=false/\(∀e∈ops[i].after,Region.binds .any e=true->b.getD e.on true=true)/\∀j,gy ops.toList i j=true->b.getD j true=true:=by
 have t:=s.size;simp only[Region.ready,List.mem_filter,List.mem_range,Qa,QQ]at hi;obtain⟨f,q,d⟩:=hi;have r:ops[i]?=some ops[i]:=qaa f;rw[r]at d;simp only[Qn,qbe,qbu,Qw,QQ]at d
 have c:∀e∈ops[i].after,Region.binds .any e=true->b.getD e.on true=true:=λe l m=>by
  rcases d e l with h1|h1
  .rw[m]at h1;cases h1
  .have u:=g i _ r e l m;rw[Qy]at h1 ⊢;rw[qaa O]at h1 ⊢;simpa using h1
 refine⟨f,q,c,?_⟩;unfold gy;intro j n;refine LN (R:=λj=>b.getD j true=true) ops.toList [] (λk _ j n=>by rw[Dg]at n;simp[getM]at n) (λk o p y e l m=>s.cl k o (by simpa using p) (by simpa using y) e (by simpa using l) m) i ops[i] (by simp[f]) (λe l m=>c e (by simpa using l) m) j (by simpa using n)
def sy.set{ops:Array Oper}{T u:Nat->Bool}{b:Array Bool}(h:sy ops T b)(c:∀i o,ops[i]?=some o->∀e∈o.after,Region.binds .any e=true->e.on<i){i:Nat}(hi:i∈Region.ready .any ops b)
  (D:∀j,j<ops.size->u j=false->T j=false/\j≠i):sy ops u (b.setIfInBounds i true):=by
 obtain⟨p,B,d,_⟩:=Cc h c hi;have z:=h.size;have s:ops[i]?=some ops[i]:=qaa p;refine⟨by simpa using h.size,λk o m f e q r=> ?_,λj t y=> ?_⟩
 .by_cases l:k=i
  .subst l;rw[s]at m;injection m with m
   subst m;have A:=c k _ s e q r;have:=d e q r;simp[Qy]at this ⊢;rw[qaT O];exact this
  .have g:b.getD k true=true:=by
    simp[Qy]at f ⊢;rw[qaT (λe=>l e.symm)]at f
    exact f
   have:=h.cl k o m g e q r
   by_cases n:e.on=i
   .rw[n,Qy,qaF O];rfl
   .simp[Qy]at this ⊢;rw[qaT (λe=>n e.symm)]
    exact this
 .let⟨h1,F⟩:=D j t y
  have:=h.t j t h1;simp[Qy]at this ⊢;rw[qaT (λe=>F e.symm)]
  exact this
def LH{ops:Array Oper}:∀(l:Z Oper) (r:Z SG),l.mapM (mN P hs ops)=some r->∀(k:Nat) (o:Oper) (g:SG),l[k]?=some o->r[k]?=some g->mN P hs ops o=some g:=by
 intro l
 induction l with
 |nil=>intro r _ k o g b;simp at b
 |cons x l c=>
  intro r f k o g b e;simp[QH,Qi,Qd,QO,Qb]at f;obtain⟨y,i,h,d,rfl⟩:=f
  cases k with
  |zero=>simp at b e;subst b e;exact i
  |succ k=>exact c h d k o g (by simpa using b) (by simpa using e)
def Bg{Γs:Nat->gW}(hΓ:∀i,fQ P (Γs i)){ops:Array Oper}{d:Z SG}(hc:ops.toList.mapM (mN P hs ops)=some d)(hd:∀o∈ops.toList,∀t,o.dst=some t->E.can t)(s:∀i o,ops[i]?=some o->∀e∈o.after,Region.binds .any e=true->e.on<i)
  {base:Nat} {S':St} {Q:Exit->Act->Wo->Prop} (T:Nat->Bool)
  (hQ:(∀i,i<ops.size->T i=true)->∀a' w' L',Rel E S' a' w' L'->Q .normal a' w')
  (hO:∀(i c:Nat) (listed:Array Bool) (S:St) (a:Act) (w:Wo) (L:Nat->Va) (l:Z (Nat×SG)) (fs:Z dV),sy ops T listed->i∈Region.ready .any ops listed->T i=false->Rel E S a w L->base+ops.size<=S.N->uP T d listed l->dL Γs base l S=some (S',fs)->
   (hZ d listed).length<=c+1->wpOpIn (WF E.rd) 0 P ops Q i (wpAnyIn (WF E.rd) 0 P .any ops Q c (listed.setIfInBounds i true)) a w):
  ∀(c:Nat) (listed:Array Bool) (S:St) (a:Act) (w:Wo) (L:Nat->Va) (l:Z (Nat×SG)) (fs:Z dV),sy ops T listed->
  Rel E S a w L->base+ops.size<=S.N->uP T d listed l->dL Γs base l S=some (S',fs)->Hn ops.toList l fs->(hZ d listed).length<=c->wpAnyIn (WF E.rd) 0 P .any ops Q c listed a w:=by
 have hgl:d.length=ops.size:=by have:=mS hc;simpa using this
 have N:∀{listed:Array Bool} {S:St} {a:Act} {w:Wo} {L:Nat->Va} {l:Z (Nat×SG)} {fs:Z dV},sy ops T listed->hZ d listed=[]->Rel E S a w L->uP T d listed l->dL Γs base l S=some (S',fs)->Q .normal a w:=by
  intro listed S a w L l fs I D h n b
  have hno:∀i,i<ops.size->listed.getD i true=true:=λi hi=>by
   cases H:listed.getD i true with
   |true=>rfl
   |false=>have:(i,d[i]'O)∈hZ d listed:=nS.2 ⟨Qt O,H⟩;rw[D]at this;cases this
  have B:l=[]:=by rw[List.eq_nil_iff_forall_not_mem];intro p F;have:=(n.mem p).1 F;have:(p.1,p.2)∈hZ d listed:=nS.2 ⟨this.1,this.2.1⟩;rw[D]at this;cases this
  rw[B]at b;simp[dL,Qb,QX]at b;rw[b.1]at h;refine hQ (λi hi=> ?_) a w L h
  cases ht:T i with
  |true=>rfl
  |false=>have:=I.t i hi ht;rw[hno i hi]at this;cases this
 intro c
 induction c with
 |zero=>intro listed S a w L l fs I h hN n b hap J;have D:hZ d listed=[]:=qah O;refine⟨?_,N I D h n b⟩;rw[List.eq_nil_iff_forall_not_mem];intro i hi;simp only[Region.ready,List.mem_filter,List.mem_range,Qa,QQ]at hi;obtain⟨h1,h2,_⟩:=hi;have:(i,d[i]'O)∈hZ d listed:=nS.2 ⟨Qt O,h2⟩;rw[D]at this;cases this
 |succ c ih=>
  intro listed S a w L l fs I h hN n b hap J;have hsz:=I.size;refine⟨λhrd=> ?_,λi hi=> ?_⟩
  .
   have D:hZ d listed=[]:=by
    rcases U:hZ d listed with _|⟨⟨i,g⟩,l⟩
    .rfl
    .exfalso;have u:(i,g)∈hZ d listed:=by rw[U];simp
     let⟨h1,h2⟩:=nS.1 u
     have A:i<ops.size:=by have:=(QI.1 h1).1;omega
     have hmin:∀j,j<i->listed.getD j true=true:=by
      intro j hj
      cases hlj:listed.getD j true with
      |true=>rfl
      |false=>
       have F:(j,d[j]'O)∈hZ d listed:=nS.2 ⟨Qt O,hlj⟩;have hs:=yV d listed;rw[U,qab]at hs;rw[U]at F;rcases Qm.1 F with F|F
       .injection F with F;omega
       .have:=hs.1 _ F;simp only at this;omega
     have:i∈Region.ready .any ops listed:=by
      simp only[Region.ready,List.mem_filter,List.mem_range,Qa,QQ];refine⟨A,h2,?_⟩;rw[qaa A];simp only[Qn,qbe,qbu,Qw,QQ];intro e he
      cases hb:Region.binds .any e with
      |false=>exact .inl rfl
      |true=>right;have hlt:=s i _ (qaa A) e he hb;have:=hmin e.on hlt;rw[Qy]at this ⊢;rw[qaa O]at this ⊢;simpa using this
     rw[hrd]at this;cases this
   exact N I D h n b
  .cases hTi:T i with
   |false=>exact hO i c listed S a w L l fs I hi hTi h hN n b J
   |true=>
   obtain⟨A,H,hpreT,hanc⟩:=Cc I s hi;have ho:ops[i]?=some ops[i]:=qaa A;have W:d[i]?=some (d[i]'O):=Qt O;have u:(i,d[i]'O)∈l:=(n.mem _).2 ⟨W,H,hTi⟩;have V:(i,d[i]'O)∈hZ d listed:=nS.2 ⟨W,H⟩;obtain⟨r,l2,rfl⟩:=List.append_of_mem u;obtain⟨k1,k2,q⟩:=List.append_of_mem V;have hfl:=(wO _ _ _ _ b).1
   let⟨p,D,_,R⟩:=Ca r i _ l2 S S' fs b (λk fk fi hk hfk hfi=>by
    have hk1:(r++(i,d[i]'O)::l2)[k]?=some r[k]:=by rw[List.getElem?_append_left hk];exact Qt hk
    refine hap k r.length r[k] (i,d[i]'O) fk fi hk hk1 t_ hfk hfi ?_
    cases hb:gy ops.toList i r[k].1 with
    |false=>rfl
    |true=>
     have h1:=hanc _ hb;have h3:=(n.mem r[k]).1 (by simp[qam])
     rw[h3.2.1]at h1
     cases h1)
   have hcog:mN P hs ops ops[i]=some (d[i]'O):=LH _ _ hc i _ _ t_ W;have hstp:pz (Γs i) (base+i) S (d[i]'O)=some (S.bA (d[i]'O).d p.1 p.2):=by rw[Lh,D];rfl
   have m:=qL (K:=wpAnyIn (WF E.rd) 0 P .any ops Q c (listed.setIfInBounds i true)) (Q:=Q) (hΓ i) hcog h (nid:=base+i) O (hd _ t_) hstp (λa' w' L' h'=>by
    refine ih _ _ a' w' L' (r++l2) (fs.eraseIdx r.length) (I.set s hi λj _ ht=>⟨ht,λe=>by rw[e,hTi]at ht;cases ht⟩) h' hN (n.set O) R ?_ ?_
    .intro x y p' q' f h0 hxy B hq' hf hh hanc'
     have hget:∀(z:Nat),(r++l2)[z]?=(r++(i,d[i]'O)::l2)[if z<r.length then z else z+1]?:=by
      intro z;split
      .rename_i hz;rw[List.getElem?_append_left hz,List.getElem?_append_left hz]
      .rename_i hz;rw[List.getElem?_append_right O,List.getElem?_append_right O];have:z+1 - r.length=(z - r.length)+1:=O;rw[this,List.getElem?_cons_succ]
     have X:∀(z:Nat),(fs.eraseIdx r.length)[z]?=fs[if z<r.length then z else z+1]?:=by intro z;rw[List.getElem?_eraseIdx];split<;>rfl
     rw[hget]at B hq';rw[X]at hf hh;refine hap _ _ p' q' f h0 ?_ B hq' hf hh hanc';split<;>split<;>omega
    .rw[Jv O q];rw[q]at J;simp at J ⊢
     omega)
   unfold wpOpIn;rw[ho];simp only;split
   .rename_i hw;rw[Qc hw]at m;exact m
   .rename_i hw;rw[Qg hw]at m;exact m
def ua{ops:Z Oper}{i j:Nat}(b:j<ops.length)(c:i<j)(h:gy ops j i=false):(i,j)∈wN ops:=by
 unfold gy at h;have:=F2 (xA ops []) 0 j (by rw[Kp];simpa using b) O h
 rwa [qai]at this
def Ba{g h:SG}{f e:dV}(k:f.d=g.d/\f.us=g.bz)(l:e.d=h.d/\e.us=h.bz)(c:lI g h=true)(hi:Ab f e=true):Bu f e:=by
 unfold lI at c;unfold Ab at hi;rw[Qa]at c hi
 let⟨m,a2⟩:=c
 let⟨i1,i2⟩:=hi
 refine⟨λt d=> ?_,λt d=> ?_,λt d j=> ?_,λi b=> ?_,λi b=> ?_,λi b j=> ?_⟩
 .grind
 .grind
 .grind
 .grind
 .grind
 .rw[b,j]at i1;simp at i1
def Jw(b:Z SG)(n:Nat)(d:b.length=n):hZ b (Array.replicate n false)=b.zipIdx.map λp=>(p.2,p.1):=by unfold hZ;rw[List.filter_eq_self];rintro⟨i,g⟩ c;simp[Qq,QX,qa5]at c;obtain⟨x,j,h1,rfl,rfl⟩:=c;rw[List.mem_zipIdx_iff_getElem?]at h1;have:=(QI.1 h1).1;simp[Qy,qbn];rw[Qc O];rfl
def yY{ops:Array Oper}(T:Nat->Bool):sy ops T (Array.replicate ops.size false):=by
 have b:∀i,i<ops.size->(Array.replicate ops.size false).getD i true=false:=λi hi=>by simp[Qy,qbn,hi]
 refine⟨t_,λi o d c=> ?_,λi hi _=>b i hi⟩
 rw[b i (QG.1 d).1]at c;cases c
def IC{ops:Array Oper}{f:Z SG}{un:Z (Nat×Nat)}(h:GF ops.toList f=some un):un=wN ops.toList/\(∀p∈un,∀g q,f[p.1]?=some g->f[p.2]?=some q->lI g q=true)/\∀i o,ops[i]?=some o->∀e∈o.after,Region.binds .any e=true->e.on<i:=by
 unfold GF at h;simp only at h;split at h
 .rename_i b;injection h with h
  rw[Qa]at b
  let⟨d,c⟩:=b
  refine⟨h.symm,λp l g q n k=> ?_,λi o m e r s=> ?_⟩
  .have:=Qe.1 d p (by rw[h];exact l)
   simpa[n,k]using this
  .have t:=Qe.1 c (o,i) (by rw[List.mem_zipIdx_iff_getElem?];simpa using m)
   have j:=Qe.1 t e (by simpa using r)
   rw[s]at j;simpa using j
 .cases h
theorem VG{Γs:Nat->gW}(F:∀i,fQ P (Γs i))(hm:P.follows .mixedOrders=true){nt id:Nat}{ops:Array Oper}{c:Z SG}{un:Z (Nat×Nat)}{Q:Exit->St->Prop}{S S':St}(hc:ops.toList.mapM (mN P hs ops)=some c)(hd:∀o∈ops.toList,∀t,o.dst=some t->t<nt)
  (hu:GF ops.toList c=some un) (g:Ht Γs S.N un c {S with N:=S.N+c.length}=some S') (h:Q .normal S'):V P nt (.region id ops true) Q S:=λE hE hk a w L n=>by
 have K:c.length=ops.size:=by have:=mS hc;simpa using this
 refine wpIn_region_any hm ?_;obtain⟨I,R,m⟩:=IC hu;unfold Ht at g;split at g
 .cases g
 .rename_i S1 fs d;split at g
  .rename_i B;injection g with g
   subst g;have A:=wO _ _ _ _ d;have s:=Jw c ops.size K;refine Bg (E:=E) (base:=S.N) F hc (GJ hE hk hd) m (λ_=>true) (λ_ a' w' L' h'=>⟨S1,L',h',h⟩) (λi fuel D S a w L l fs _ _ ht=>by cases ht) ops.size (Array.replicate ops.size false) {S with N:=S.N+c.length} a _ L _ fs (yY _) ((n.room c.length).drew _) (by simp[K]) (by rw[<-s];exact Tl _ _) d ?_ (by rw[s];simp[K])
   intro x y p q f e H W U X he k
   have j:∀(z:Nat) (r:Nat×SG),(c.zipIdx.map λp=>(p.2,p.1))[z]?=some r->r.1=z/\c[z]?=some r.2:=by intro z r T;simp only[Qr,Qh,qa5,List.getElem?_zipIdx,QX]at T;obtain⟨u,v,⟨u',J,rfl,rfl⟩,rfl⟩:=T;exact⟨t_,J⟩
   let⟨p1,p2⟩:=j x p W
   let⟨q1,q2⟩:=j y q U
   have hy:y<ops.toList.length:=by have:=(QI.1 q2).1;simp;omega
   rw[p1,q1]at k;have b:=ua hy H k;rw[<-I]at b;refine Ba (A.2 x p.1 p.2 f W X) (A.2 y q.1 q.2 e U he) (R _ b _ _ p2 q2) ?_;have:=Qe.1 B _ b;simpa[X,he]using this
  .cases g
end
end
end Go.TQ
end
