/-
  Texts made small by a program (see NOTES). Conditions: those that each theorem names.
-/
import Derived.Maps.AppendAt
import Derived.Below
import Derived.Orders
import Derived.Tactics
import Derived.Deep.MidRow
import Derived.RangeFuncLeaves
import Derived.Laws.Build
import Derived.WalkKit
import Derived.Lib.Bytes
import Derived.Laws.IdiomStrings
import Derived.Laws.Strings3
import Derived.Laws.Slices
import Derived.Laws.Tables
import Derived.Laws.MakeOwn
import Derived.Laws.Cover3
import Derived.Laws.StructEq
import Derived.Sort.LoopGhostIn
import Derived.OrdersIn
import Derived.RangeFuncRecord
set_option linter.unusedVariables false
set_option linter.defProp false
set_option linter.unusedSimpArgs false
set_option linter.unusedSectionVars false
set_option maxHeartbeats 2000000
namespace Go
section
abbrev Y:=Option
abbrev Z:=List
abbrev C:=ByteArray
abbrev Va:=Value
abbrev Wo:=World
abbrev Pr:=Program
abbrev FI:=FuncId
abbrev TI:=TypeId
abbrev Od:=Operand
end
section
def O {p : Prop} (h : p := by omega) : p := h
def o_ {p : Prop} (h : p := by simp; omega) : p := h
def t_ {p : Prop} (h : p := by simp) : p := h
def s_ {p : Prop} (h : p := by decide) : p := h
def d_ {p : Prop} (h : p := by kernel_rfl) : p := h
end
section
def Qa:=@Option.bind_some
def Qb:=@cond_false
def Qc:=@cond_true
def Qd:=@decide_eq_true
def Qe:=@if_pos
def Qf:=@decide_eq_false
def Qg:=@if_neg
def Qh:=@Bool.not_true
def Qi:=@Bool.and_eq_true
def Qj:=@List.getElem?_eq_getElem
def Qk:=@Option.some.injEq
def Ql:=@decide_true
def Qm:=@Option.bind_eq_some_iff
def Qn:=@List.all_eq_true
def Qo:=@Option.map_some
def Qp:=@Nat.eq_of_beq_eq_true
def Qq:=@Option.map_eq_some_iff
def Qr:=@if_true
def Qs:=@Nat.le_refl
def Qt:=@Bool.not_false
def Qu:=@Option.bind_eq_bind
def Qv:=@List.mem_cons
def Qw:=@decide_eq_true_eq
def Qx:=@if_false
def Qy:=@List.map_cons
def Qz:=@List.mem_singleton
def QA:=@List.mem_append
def QB:=@Bool.false_eq_true
def QC:=@List.mem_cons_self
def QD:=@List.length_map
def QE:=@List.getElem_mem
def QF:=@Int.lt_irrefl
def QG:=@List.getElem?_map
def QH:=@List.getElem?_eq_some_iff
def QI:=@List.mem_cons_of_mem
def QJ:=@Nat.le_trans
def QK:=@List.take_length
def QL:=@List.mem_of_getElem?
def QM:=@List.length_append
def QN:=@List.length_cons
def QO:=@List.mem_map
def QP:=@run_underlying
def QQ:=@List.drop_eq_getElem_cons
def QR:=@Bool.or_eq_true
def QS:=@Nat.le_of_ble_eq_true
def QT:=@Nat.zero_le
def QU:=@List.length_singleton
def QV:=@Int.toNat_natCast
def QW:=@Nat.lt_of_lt_of_le
def QX:=@List.not_mem_nil
def QY:=@Sem.run_bind
def QZ:=@List.foldl_cons
def Q0:=@List.pairwise_cons
def Q1:=@Nat.add_mul
def Q2:=@Nat.mul_le_mul_right
def Q3:=@List.all_cons
def Q4:=@Array.getD_eq_getD_getElem?
def Q5:=@Option.map_none
def Q6:=@Array.getElem?_eq_some_iff
def Q7:=@Option.some.inj
def Q8:=@Int.le_refl
def Q9:=@List.drop_length
def qaa:=@List.mapM_cons
def qab:=@List.take_succ_eq_append_getElem
def qac:=@Result.andThen_ok
def qad:=@Bool.not_eq_true'
def qae:=@Bool.true_and
def qaf:=@Option.pure_def
def qag:=@congrArg
def qah:=@List.append_assoc
def qai:=@List.pairwise_append
def qaj:=@Sem.run_pure
def qak:=@List.map_congr_left
def qal:=@of_decide_eq_true
def qam:=@decide_eq_decide
def qan:=@List.length_set
def qao:=@Bool.or_eq_false_iff
def qap:=@Bool.and_self
def qaq:=@Array.toArray_toList
def qar:=@Array.length_toList
def qas:=@List.map_nil
def qat:=@List.mem_flatMap
def qau:=@Nat.zero_add
def qav:=@Nat.lt_succ_self
def qaw:=@Bool.and_true
def qax:=@congrFun
def qay:=@List.length_nil
def qaz:=@List.eq_nil_of_length_eq_zero
def qaA:=@Nat.one_mul
def qaB:=@wpIn_mono
def qaC:=@or_false
def qaD:=@Nat.min_eq_left
def qaE:=@Nat.testBit_two_pow
def qaF:=@not_or
def qaG:=@decide_eq_false_iff_not
def qaH:=@Bool.eq_iff_iff
def qaI:=@Option.getD_some
def qaJ:=@List.getElem?_eq_none
def qaK:=@Nat.lt_or_ge
def qaL:=@Nat.add_comm
def qaM:=@Prod.mk.injEq
def qaN:=@and_self
def qaO:=@Nat.testBit_or
def qaP:=@decide_false
def qaQ:=@Array.getElem?_eq_getElem
def qaR:=@List.getElem?_take
def qaS:=@Array.getElem?_setIfInBounds_self_of_lt
def qaT:=@not_true_eq_false
def qaU:=@Nat.le_of_eq
def qaV:=@setRow_heap
def qaW:=@Array.getElem?_append
def qaX:=@getElem!_pos
def qaY:=@false_iff
def qaZ:=@Bool.not_eq_true
def qa0:=@List.mem_of_mem_take
def qa1:=@Nat.le_succ
def qa2:=@Array.eq_empty_of_size_eq_zero
def qa3:=@Array.toList_map
def qa4:=@Addr.mk.injEq
def qa5:=@wpListIn_step
def qa6:=@wpIn_seq
def qa7:=@Nat.ble_eq_true_of_le
def qa8:=@Bool.false_or
def qa9:=@Array.size_map
def qba:=@Nat.pow_le_pow_right
def qbb:=@Eq.trans
def qbc:=@List.mem_of_mem_drop
def qbd:=@Oper.semAt_eq
def qbe:=@Nat.add_zero
def qbf:=@Classical.not_not
def qbg:=@Array.getElem?_setIfInBounds_ne
def qbh:=@Nat.eq_zero_or_pos
def qbi:=@Int.ofNat_lt
def qbj:=@Classical.choose_spec
def qbk:=@Array.getElem?_toList
def qbl:=@Nat.sub_zero
def qbm:=@Nat.and_le_left
def qbn:=@Bool.cond_true_left
def qbo:=@Int.eq_ofNat_of_zero_le
def qbp:=@Int.le_trans
def qbq:=@Nat.lt_irrefl
def qbr:=@Lib.toList_data
def qbs:=@heap_alloc_new
def qbt:=@wpIn_cond
def qbu:=@Array.getElem?_replicate
def qbv:=@wpIn_region_list
def qbw:=@Bool.false_and
def qbx:=@Bool.true_eq_false
def qby:=@Nat.ne_of_lt
def qbz:=@Option.toList_some
def qbA:=@Nat.min_def
def qbB:=@run_callFunc_extern
def qbC:=@Nat.mul_one
def qbD:=@Nat.lt_of_le_of_lt
def qbE:=@Nat.or_lt_two_pow
def qbF:=@Nat.pow_lt_pow_right
def qbG:=@Bool.or_true
def qbH:=@Classical.byContradiction
def qbI:=@Bool.or_false
def qbJ:=@Bool.cond_eq_ite
def qbK:=@Nat.not_lt_zero
def qbL:=@Nat.le_add_right
def qbM:=@Nat.mul_comm
def qbN:=@run_storeCells_at
def qbO:=@setRow_other
def qbP:=@run_append_own_at
def qbQ:=@Nat.min_self
def qbR:=@exists_false
def qbS:=@IntKind.wrap_i64
def qbT:=@Nat.ne_of_beq_eq_false
def qbU:=@Int.natCast_nonneg
def qbV:=@Nat.le_of_lt
def qbW:=@Array.getElem?_modify
def qbX:=@Array.size_append
def qbY:=@BitVec.toNat_and
def qbZ:=@Nat.eq_of_testBit_eq
def qb0:=@Nat.or_assoc
def qb1:=@Int.toNat_zero
def qb2:=@Nat.mul_le_mul
def qb3:=@of_decide_eq_false
def qb4:=@Bool.true_or
def qb5:=@Bool.true_xor
def qb6:=@DataW.trod_lt
def qb7:=@List.getD_eq_getElem?_getD
def qb8:=@Nat.add_sub_cancel_left
def qb9:=@Array.all_eq_true_iff_forall_mem
def qca:=@Array.mapM_eq_mapM_toList
def qcb:=@Array.getElem?_eq_none_iff
def qcc:=@Array.getElem?_append_left
def qcd:=@Array.getElem?_mapIdx
def qce:=@Nat.shiftRight_eq_div_pow
def qcf:=@Nat.testBit_lt_two_pow
end
end Go
open Int (toNat)
open Sum (inl inr)
open List (replicate)
noncomputable section
namespace Go.TQ
section
inductive PV where
 |any
 |undef
 |int (k:IntKind) (n:Int)
 |bool (b:Bool)
 |iD
 |str (s:ByteArray)
 |nj
 |eV
 |bJ (f:FuncId) (caps:List PV)
 |kP (f:FuncId) (first:List PV)
 |agg (cs:List PV)
 |ff (cs:List PV)
 |ptr (id aw off:Nat)
 |ref (cs:List PV)
 |sl (es:List (List PV))
 |own (id aw:Nat)
 |fK (id aw k i off:Nat)
 |view (id aw k lo n:Nat)
 |og (ks vs:List PV)
def PV.plain:PV->Bool
 | .int ..| .bool _| .iD| .str _| .nj| .eV| .any| .undef=>true
 |_=>false
structure Gh where
 N:Nat
 L:Nat->Value
 V:Nat->Nat
def dz:Gh:=⟨0,λ_=> .bool false,λ_=>0⟩
def cq:Va->Y Nat
 | .pointer (some a)| .slice (some a) _ _=>some a.block
 |_=>none
def aaa(l:Va)(k lo n:Nat)(a:Y Addr)(c:Nat):Prop:=
 ∃b m c0,l= .slice b m c0/\lo+n<=m/\m<=c0/\c=c0 - lo/\((n=0/\lo≠0/\(a=none->b=none))\/a=b.map (·.add (lo*k)))
inductive bp (w:World) (M:Nat->Prop):Gh->PV->Value->Prop where
 |any {G:Gh} (v:Value):bp w M G .any v
 |undef {G:Gh}:bp w M G .undef Go.undef
 |int {G:Gh} (k:IntKind) (n:Int):bp w M G (.int k n) (.int k n)
 |bool {G:Gh} (b:Bool):bp w M G (.bool b) (.bool b)
 |iD {G:Gh} (b:Bool):bp w M G .iD (.bool b)
 |str {G:Gh} (s:ByteArray):bp w M G (.str s) (.string s)
 |nj {G:Gh}:bp w M G .nj (.pointer none)
 |eV {G:Gh}:bp w M G .eV (.slice none 0 0)
 |bJ {G:Gh} (f:FuncId) (caps:List PV) (vs:List Value) (hl:vs.length=caps.length) (h:∀(i:Nat) (x:PV) (v:Value),caps[i]?=some x->vs[i]?=some v->bp w M G x v):bp w M G (.bJ f caps) (.func (.func f) #[] vs.toArray)
 |kP {G:Gh} (f:FuncId) (cs:List PV) (vs:List Value) (hl:vs.length=cs.length) (h:∀(i:Nat) (x:PV) (v:Value),cs[i]?=some x->vs[i]?=some v->bp w M G x v):bp w M G (.kP f cs) (.func (.func f) vs.toArray #[])
 |agg {G:Gh} (cs:List PV) (vs:List Value) (hl:vs.length=cs.length) (h:∀(i:Nat) (x:PV) (v:Value),cs[i]?=some x->vs[i]?=some v->bp w M G x v):bp w M G (.agg cs) (.agg vs.toArray)
 |ff {G:Gh} (cs:List PV) (vs:List Value) (hl:vs.length=cs.length) (h:∀(i:Nat) (x:PV) (v:Value),cs[i]?=some x->vs[i]?=some v->bp w M G x v):bp w M G (.ff cs) (.tuple vs.toArray)
 |ptr {G:Gh} (id aw off:Nat) (a:Option Addr) (hN:id<G.N) (hV:aw<=G.V id) (h:aw=G.V id->a=(cq (G.L id)).map λb=>⟨b,off,none⟩):bp w M G (.ptr id aw off) (.pointer a)
 |ref {G:Gh} (cs:List PV) (a:Addr) (vs:List Value) (hl:vs.length=cs.length) (hc:∀(i:Nat) (v:Value),vs[i]?=some v->w.cell? (a.add i)=some v/\¬M a.block)
   (h:∀(i:Nat) (x:PV) (v:Value),cs[i]?=some x->vs[i]?=some v->bp w M dz x v):bp w M G (.ref cs) (.pointer (some a))
 |sl {G:Gh} (es:List (List PV)) (a:Addr) (c k:Nat) (vs:List Value) (hk:∀e∈es,e.length=k) (hl:vs.length=es.flatten.length) (hc:∀(i:Nat) (v:Value),vs[i]?=some v->w.cell? (a.add i)=some v/\¬M a.block)
   (h:∀(i:Nat) (x:PV) (v:Value),es.flatten[i]?=some x->vs[i]?=some v->bp w M dz x v) (hn:es.length<=c) (hm:c<=maxLen):bp w M G (.sl es) (.slice (some a) es.length c)
 |slnil {G:Gh}:bp w M G (.sl []) (.slice none 0 0)
 |own {G:Gh} (id aw:Nat) (a:Option Addr) (n c:Nat) (hN:id<G.N) (hV:aw<=G.V id) (h:aw=G.V id-> .slice a n c=G.L id):bp w M G (.own id aw) (.slice a n c)
 |fK {G:Gh} (id aw k i off:Nat) (a:Option Addr) (hN:id<G.N) (hV:aw<=G.V id) (h:aw=G.V id->a=(cq (G.L id)).map λb=>⟨b,i*k+off,none⟩):bp w M G (.fK id aw k i off) (.pointer a)
 |view {G:Gh} (id aw k lo n:Nat) (a:Option Addr) (c:Nat) (hN:id<G.N) (hV:aw<=G.V id) (h:aw=G.V id->aaa (G.L id) k lo n a c):bp w M G (.view id aw k lo n) (.slice a n c)
 |og {G:Gh} (ks vs:List PV) (b:Nat) (es:Array MapEntry) (ck:Nat) (hb:w.heap[b]?=some (.map es ck)) (hM:¬M b) (hk:es.size=ks.length) (hv:es.size=vs.length)
   (h1:∀(i:Nat) (x:PV) (e:MapEntry),ks[i]?=some x->es[i]?=some e->bp w M dz x e.key) (h2:∀(i:Nat) (x:PV) (e:MapEntry),vs[i]?=some x->es[i]?=some e->bp w M dz x e.val):bp w M G (.og ks vs) (.map (some b))
def bo(w:Wo)(M:Nat->Prop)(G:Gh)(cs:Z PV)(vs:Z Va):Prop:=
 vs.length=cs.length/\∀(i:Nat) (x:PV) (v:Va),cs[i]?=some x->vs[i]?=some v->bp w M G x v
structure Gh.le (G G':Gh):Prop where
 N:G.N<=G'.N
 at_:∀id,id<G.N->(G.V id=G'.V id/\G.L id=G'.L id)\/G.V id<G'.V id
def Gh.le.refl(G:Gh):G.le G:=⟨Qs _,λ_ _=> .inl ⟨rfl,rfl⟩⟩
structure dp (w w':World) (M M':Nat->Prop):Prop where
 c:∀(a:Addr) (v:Value),w.cell? a=some v->¬M a.block->w'.cell? a=some v/\¬M' a.block
 m:∀(b:Nat) (es:Array MapEntry) (ck:Nat),w.heap[b]?=some (.map es ck)->¬M b->w'.heap[b]?=some (.map es ck)/\¬M' b
def dp.of{w:Wo}{M M':Nat->Prop}(h:∀b,¬M b->¬M' b):dp w w M M':=⟨λ_ _ d c=>⟨d,h _ c⟩,λ_ _ _ e c=>⟨e,h _ c⟩⟩
def dp.trans{a b c:Wo}{M M' M'':Nat->Prop}(h:dp a b M M')(k:dp b c M' M''):dp a c M M'':=
 ⟨λp v d e=>let⟨h1,f⟩:=h.c p v d e;k.c p v h1 f,λp es g d e=>let⟨h1,f⟩:=h.m p es g d e;k.m p es g h1 f⟩
def bp.amz{w w':Wo}{M M':Nat->Prop}{G:Gh}(hs:dp w w' M M'){x:PV}{v:Va}(h:bp w M G x v):∀G',G.le G'->bp w' M' G' x v:=by
 induction h with
 |any v=>exact λ_ _=> .any v
 |undef=>exact λ_ _=> .undef
 |int k n=>exact λ_ _=> .int k n
 |bool b=>exact λ_ _=> .bool b
 |iD b=>exact λ_ _=> .iD b
 |str s=>exact λ_ _=> .str s
 |nj=>exact λ_ _=> .nj
 |eV=>exact λ_ _=> .eV
 |bJ f t vs m _ l=>exact λG' d=> .bJ f t vs m λi x v g hv=>l i x v g hv G' d
 |kP f cs vs m _ l=>exact λG' d=> .kP f cs vs m λi x v g hv=>l i x v g hv G' d
 |agg cs vs m _ l=>exact λG' d=> .agg cs vs m λi x v g hv=>l i x v g hv G' d
 |ff cs vs m _ l=>exact λG' d=> .ff cs vs m λi x v g hv=>l i x v g hv G' d
 |ptr id aw off a j B h=>
  intro G' d;refine .ptr id aw off a (QW j d.N) ?_ ?_
  .rcases d.at_ id j with⟨e,_⟩|e<;>omega
  .intro e;rcases d.at_ id j with⟨r,q⟩|r
   .rw[<-q];exact h O
   .omega
 |ref cs a vs m A _ l=>
  intro G' _
  exact .ref cs a vs m (λi v hv=>by
   let⟨h1,D⟩:=A i v hv
   have p:(a.add i).block=a.block:=by unfold Addr.add;split<;>rfl
   have:=hs.c _ _ h1 (by rw[p];exact D)
   rw[p]at this
   exact this) λi x v g hv=>l i x v g hv dz (Gh.le.refl _)
 |sl es a c k vs hk m A _ H hm l=>
  intro G' _
  exact .sl es a c k vs hk m (λi v hv=>by
   let⟨h1,D⟩:=A i v hv
   have p:(a.add i).block=a.block:=by unfold Addr.add;split<;>rfl
   have:=hs.c _ _ h1 (by rw[p];exact D)
   rw[p]at this
   exact this) (λi x v g hv=>l i x v g hv dz (Gh.le.refl _)) H hm
 |slnil=>exact λ_ _=> .slnil
 |own id aw a n c j B h=>
  intro G' d;refine .own id aw a n c (QW j d.N) ?_ ?_
  .rcases d.at_ id j with⟨e,_⟩|e<;>omega
  .intro e;rcases d.at_ id j with⟨r,q⟩|r
   .rw[<-q];exact h O
   .omega
 |fK id aw k i off a j B h=>
  intro G' d;refine .fK id aw k i off a (QW j d.N) ?_ ?_
  .rcases d.at_ id j with⟨e,_⟩|e<;>omega
  .intro e;rcases d.at_ id j with⟨r,q⟩|r
   .rw[<-q];exact h O
   .omega
 |view id aw k lo n a c j B h=>
  intro G' d;refine .view id aw k lo n a c (QW j d.N) ?_ ?_
  .rcases d.at_ id j with⟨e,_⟩|e<;>omega
  .intro e;rcases d.at_ id j with⟨r,q⟩|r
   .rw[<-q];exact h O
   .omega
 |og ks vs b es I p F hk hv _ _ y u=>intro G' _;exact .og ks vs b es I (hs.m _ _ _ p F).1 (hs.m _ _ _ p F).2 hk hv (λi x e g z=>y i x e g z dz (Gh.le.refl _)) λi x e g z=>u i x e g z dz (Gh.le.refl _)
def bp.mono{w w':Wo}{M M':Nat->Prop}{G G':Gh}(hs:dp w w' M M')(b:G.le G'){x:PV}{v:Va}(h:bp w M G x v):bp w' M' G' x v:=h.amz hs G' b
def dz.le(G:Gh):dz.le G:=⟨QT _,λ_ h=>absurd h (qbK _)⟩
def bo.mono{w w':Wo}{M M':Nat->Prop}{G G':Gh}(hs:dp w w' M M')(c:G.le G'){cs:Z PV}{vs:Z Va}(h:bo w M G cs vs):bo w' M' G' cs vs:=
 ⟨h.1,λi x v b hv=>(h.2 i x v b hv).mono hs c⟩
section
variable{w:Wo}{M:Nat->Prop}{G:Gh}
def bo.nil:bo w M G [] []:=⟨rfl,λi x v h _=>by simp at h⟩
def bo.cons{x:PV}{v:Va}{cs:Z PV}{vs:Z Va}(h:bp w M G x v)(t:bo w M G cs vs):bo w M G (x::cs) (v::vs):=by
 refine⟨by simp[t.1],λi y u b c=> ?_⟩
 cases i with
 |zero=>simp at b c;subst b c;exact h
 |succ i=>simp at b c;exact t.2 i y u b c
def bo.cons_inv{x:PV}{cs:Z PV}{vs:Z Va}(h:bo w M G (x::cs) vs):∃v vs',vs=v::vs'/\bp w M G x v/\bo w M G cs vs':=by
 let⟨b,h⟩:=h
 cases vs with
 |nil=>simp at b
 |cons v vs=>exact⟨v,vs,rfl,h 0 x v t_ t_,by simpa using b,λi y u c d=>h (i+1) y u (by simpa using c) (by simpa using d)⟩
def bo.vi{vs:Z Va}(h:bo w M G [] vs):vs=[]:=qaz h.1
def bo.append{cs c:Z PV}{vs us:Z Va}(h:bo w M G cs vs)(k:bo w M G c us):bo w M G (cs++c) (vs++us):=by
 refine⟨by simp[h.1,k.1],λi x v b hv=> ?_⟩
 by_cases hi:i<cs.length
 .rw[List.getElem?_append_left hi]at b;rw[List.getElem?_append_left (by rw[h.1];exact hi)]at hv
  exact h.2 i x v b hv
 .rw[List.getElem?_append_right O]at b;rw[List.getElem?_append_right (by rw[h.1];omega),h.1]at hv
  exact k.2 _ x v b hv
def bo.take{cs:Z PV}{vs:Z Va}(h:bo w M G cs vs)(n:Nat):bo w M G (cs.take n) (vs.take n):=by
 refine⟨by simp[h.1],λi x v b hv=> ?_⟩
 rw[qaR]at b hv;split at b
 .rename_i hi;rw[Qe hi]at hv;exact h.2 i x v b hv
 .cases b
def bo.drop{cs:Z PV}{vs:Z Va}(h:bo w M G cs vs)(n:Nat):bo w M G (cs.drop n) (vs.drop n):=by
 refine⟨by simp[h.1],λi x v b hv=> ?_⟩
 rw[List.getElem?_drop]at b hv;exact h.2 _ x v b hv
def bo.get{cs:Z PV}{vs:Z Va}(h:bo w M G cs vs){i:Nat}{x:PV}(b:cs[i]?=some x):∃v,vs[i]?=some v/\bp w M G x v:=by
 have hi:i<vs.length:=by rw[h.1];exact(QH.1 b).1
 exact⟨vs[i],Qj hi,h.2 i x _ b (Qj hi)⟩
def PV.one:PV->Bool
 | .int ..| .bool _| .iD| .str _| .nj| .eV| .bJ ..| .kP ..| .ptr ..| .fK ..| .ref _| .sl _| .own ..| .view ..| .og ..=>true
 |_=>false
def PV.cells:PV->Z PV
 | .agg cs=>cs
 |x=>[x]
def bp.one{x:PV}{v:Va}(h:bp w M G x v)(b:x.one=true):v.oneCell'=true/\v.cells=#[v]:=by cases h<;>simp[PV.one]at b<;>exact⟨rfl,rfl⟩
def bp.cells{x:PV}{v:Va}(h:bp w M G x v)(d:∀y∈x.cells,y.one=true):bo w M G x.cells v.cells.toList/\∀u∈v.cells.toList,u.oneCell'=true:=by
 have go:∀{cs:Z PV} {vs:Z Va},bo w M G cs vs->(∀y∈cs,y.one=true)->∀u∈vs,u.oneCell'=true:=by
  intro cs vs c d u f;obtain⟨i,hi,rfl⟩:=List.mem_iff_getElem.1 f;have b:i<cs.length:=by rw[<-c.1];exact hi
  exact((c.2 i cs[i] vs[i] (Qj b) (Qj hi)).one (d _ (QE b))).1
 cases b:x with
 |agg cs=>
  subst b
  cases h with
  |agg _ vs g h=>have c:bo w M G cs vs:=⟨g,h⟩;exact⟨by simpa[PV.cells,Value.cells]using c,by simpa[Value.cells]using go c (by simpa[PV.cells]using d)⟩
 |_=>
  have e:x.cells=[x]:=by rw[b];rfl
  rw[<-b];rw[e]at d
  let⟨k,j⟩:=h.one (d x t_)
  rw[e,j];exact⟨.cons h .nil,by simpa using k⟩
end
end
section
open Go.RowKit
inductive zO where
 |dead
 |box (cs:List PV)
 |row (e:TypeId) (k:Nat) (es:List (List PV))
structure gU where
 aw:Nat
 c:zO
def zO.live:zO->Bool
 | .dead=>false
 |_=>true
structure St where
 env:Nat->PV
 H:Nat->gU
 N:Nat
def bZ{α:Type}(f:Nat->α)(i:Nat)(x:α):Nat->α:=λj=>if j=i then x else f j
theorem cJ{α:Type}(f:Nat->α)(i:Nat)(x:α):bZ f i x i=x:=by simp[bZ]
theorem du{α:Type}(f:Nat->α){i j:Nat}(x:α)(h:j≠i):bZ f i x j=f j:=by simp[bZ,h]
def isC:Obj->Bool
 | .cells ..=>true
 |_=>false
def MQ:Obj->Bool
 | .cells ..| .map ..=>true
 |_=>false
def ajb{o:Obj}(h:isC o=true):MQ o=true:=by cases o<;>first|rfl|cases h
structure Kept (w w':World) (M M':Nat->Prop):Prop where
 k:∀(b:Nat) (o:Obj),w.heap[b]?=some o->MQ o=true->¬M b->w'.heap[b]?=some o/\¬M' b
def Kept.trans{a b c:Wo}{M M' M'':Nat->Prop}(h:Kept a b M M')(k:Kept b c M' M''):Kept a c M M'':=⟨λq o i d g=>let⟨f,e⟩:=h.k q o i d g;k.k q o f d e⟩
def Kept.top(w w':Wo)(M':Nat->Prop):Kept w w' (λ_=>True) M':=⟨λ_ _ _ _ b=>absurd trivial b⟩
def Kept.of{w:Wo}{M M':Nat->Prop}(h:∀b,¬M b->¬M' b):Kept w w M M':=⟨λb _ d _ c=>⟨d,h b c⟩⟩
def Kept.stays{w w':Wo}{M M':Nat->Prop}(h:Kept w w' M M'):dp w w' M M':=by
 refine⟨λp v c f=> ?_,λb es k i f=>h.k b _ i rfl f⟩
 have g:∃o,w.heap[p.block]?=some o/\MQ o=true:=by
  unfold World.cell? at c
  cases d:w.heap[p.block]? with
  |none=>rw[d]at c;simp at c
  |some o=>refine⟨o,rfl,?_⟩;rw[d]at c;cases o<;>first|rfl|(simp at c)
 let⟨o,d,e⟩:=g
 let⟨h1,j⟩:=h.k _ o d e f
 exact⟨(World.cell?_of_block (h1.trans d.symm)).trans c,j⟩
structure EO (w w':World):Prop where
 size:w.heap.size<=w'.heap.size
 same:∀(k:Nat) (o:Obj),w.heap[k]?=some o->isC o=false->w'.heap[k]?=some o
def EO.refl(w:Wo):EO w w:=⟨Qs _,λ_ _ h _=>h⟩
def EO.trans{a b c:Wo}(h:EO a b)(k:EO b c):EO a c:=⟨QJ h.size k.size,λi o hi d=>k.same i o (h.same i o hi d) d⟩
def WF(rd:Y Nat):Fence:={Fence.wide with round:=rd}
def Fo{rd:Y Nat}{n:Nat}{P:Pr}{f:FI}{b:Array Va}{w:Wo}{R:Ending->Wo->Prop}:CallsIn (WF rd) n P f b w R↔Calls P f b w R:=
 (show CallsIn (WF rd) n P f b w R↔CallsIn Fence.wide n P f b w R from Iff.rfl).trans callsIn_wide
def ada:Z (Nat×(Obj->Prop)):=[]
def gb(b:Nat):Prop:=∃q∈ada,q.1=b
def GI(w:Wo):Prop:=∀q∈ada,∃o,w.heap[q.1]?=some o/\q.2 o
structure zw (w:World) (X:Nat->Prop):Prop where
 lt:∀b,X b->b<w.heap.size
 ng:∀b,X b->¬gb b
 gi:GI w
def GI.lt{w:Wo}(h:GI w){b:Nat}(d:gb b):b<w.heap.size:=by
 obtain⟨q,c,rfl⟩:=d
 let⟨o,e,_⟩:=h q c
 grind
def GI.fg{w w':Wo}(h:GI w)(f:∀b,gb b->w'.heap[b]?=w.heap[b]?):GI w':=λq c=>by
 let⟨o,e,d⟩:=h q c
 exact⟨o,(f _ ⟨q,c,rfl⟩).trans e,d⟩
def zw.nil{w:Wo}(h:GI w):zw w λ_=>False:=⟨λ_ b=>b.elim,λ_ b=>b.elim,h⟩
structure En where
 w0:World
 rb:Option Nat
 nt:Nat
 rd:Option Nat
 nd:Bool
 kt:Nat->Option Value
 wk:World
 wm:World
 M0:Nat->Prop
 X:Nat->Prop
 H0:Nat->Prop
 hX:zw w0 λb=>X b/\¬H0 b
 Rs:Bool
 rv:Value
 rk:Bool
 EL:∀b,rb=some b->b<w0.heap.size/\¬gb b
 TE:rk=true->∀b,rb=some b->¬X b
def gE(E:En)(v:Va):Nat:=if E.rk=true/\E.rb≠none/\cq v=E.rb then 0 else E.w0.heap.size
def Ek{E:En}{v v':Va}(h:cq v=cq v'):gE E v=gE E v':=by simp[gE,h]
def Sf(E:En)(v:Va):gE E v<=E.w0.heap.size:=by unfold gE;split<;>omega
def O0{E:En}{v:Va}{g:Nat}(h:cq v=some g)(b:E.w0.heap.size<=g):gE E v=E.w0.heap.size:=by unfold gE;rw[Qg];rintro⟨_,_,h1⟩;rw[h]at h1;have:=(E.EL g h1.symm).1;omega
def JH{E:En}{v:Va}{g:Nat}(h:cq v=some g)(b:gE E v<=g):(E.rk=true/\E.rb=some g)\/E.w0.heap.size<=g:=by grind [gE]
def tT:Bool:=true
def DL(w w':Wo):Prop:=tT=true->w.drawn<=w'.drawn
def DL.refl(w:Wo):DL w w:=λ_=>Qs _
def DL.of{w w':Wo}(h:w.drawn<=w'.drawn):DL w w':=λ_=>h
def DL.trans{a b c:Wo}(h:DL a b)(k:DL b c):DL a c:=λe=>QJ (h e) (k e)
structure Fr (rb:Option Nat) (w0 w:World):Prop where
 os:w.os=w0.os
 tape:w.tape=w0.tape
 output:w.output=w0.output
 size:w0.heap.size<=w.heap.size
 block:∀b,b<w0.heap.size->rb≠some b->w.heap[b]?=w0.heap[b]?
 drawn:DL w0 w
def Fr.refl(rb:Y Nat)(w:Wo):Fr rb w w:=⟨rfl,rfl,rfl,Qs _,λ_ _ _=>rfl,DL.refl _⟩
def bn(E:En)(S:St)(L:Nat->Va)(b:Nat):Prop:=(∃id,id<S.N/\(S.H id).c.live=true/\cq (L id)=some b)\/E.X b
def St.gh(S:St)(L:Nat->Va):Gh:=⟨S.N,L,λid=>(S.H id).aw⟩
def tZ(E:En)(w:Wo)(M:Nat->Prop)(G:Gh)(v:Va):zO->Prop
 | .dead=>True
 | .box cs=>∃(b:Nat) (c:Array Va) (T:TI),v= .pointer (some ⟨b,0,none⟩)/\w.heap[b]?=some (.cells c T (0,0))/\(E.rb=some b\/E.w0.heap.size<=b)/\bo w M G cs c.toList
 | .row e k es=>∃(vs:Z Va),w.ownsRow (gE E v) e k v es.length vs/\(∀x∈es,x.length=k)/\bo w M G es.flatten vs
def En.can(E:En)(d:Nat):Prop:=d<E.nt/\E.kt d=none
structure Marks (E:En) (a:Act) (w:World):Prop where
 none:E.nd=true->a.defers=[]
 nodup:a.defers.Nodup
 at_:∀d∈a.defers,∃D,d={target:= .collected D,args:=#[]}/\E.w0.heap.size<=D/\w.heap[D]?=some (.deferred (some []))
def Marks.nil{E:En}{a:Act}{w:Wo}(h:a.defers=[]):Marks E a w:=⟨λ_=>h,by rw[h];exact List.nodup_nil,λd b=>by rw[h]at b;cases b⟩
structure FrE (E:En) (w:World):Prop extends Fr E.rb E.w0 w where
 ko:EO E.wk w
structure Rel (E:En) (S:St) (a:Act) (w:World) (L:Nat->Value):Prop where
 defers:Marks E a w
 size:a.tmps.size=E.nt/\∀t v,E.kt t=some v->a.tmps.getD t undef=v
 env:∀t,bp w (bn E S L) (S.gh L) (S.env t) (a.tmps.getD t undef)
 obj:∀id,id<S.N->tZ E w (bn E S L) (S.gh L) (L id) (S.H id).c
 apart:∀i j b,i<S.N->j<S.N->(S.H i).c.live=true->(S.H j).c.live=true->cq (L i)=some b->cq (L j)=some b->i=j
 fresh:∀id,S.N<=id->S.H id=⟨0,.dead⟩
 fr:FrE E w
 CB:E.Rs=true->(S.H 0).c.live=true->(S.H 0).aw=0->L 0=E.rv
 an:Kept E.wm w E.M0 (bn E S L)/\(∀id b,id<S.N->(S.H id).c.live=true->cq (L id)=some b->E.rb=some b->id=0)/\
  ∀b,E.H0 b->¬gb b/\(∃o,E.wm.heap[b]?=some o/\MQ o=true/\w.heap[b]?=some o)/\∀id,id<S.N->(S.H id).c.live=true->cq (L id)≠some b
theorem block_add(a:Addr)(i:Nat):(a.add i).block=a.block:=by unfold Addr.add;split<;>rfl
def abW{w:Wo}{a:Addr}{v:Va}(h:w.cell? a=some v):a.block<w.heap.size:=World.block_lt_of_cell? w a h
def tZ.mono{E:En}{w w':Wo}{M M':Nat->Prop}{G G':Gh}{v:Va}{c:zO}(hs:dp w w' M M')(m:G.le G')
  (p:∀b,cq v=some b->b<w.heap.size->w'.heap[b]?=w.heap[b]?) (h:tZ E w M G v c):tZ E w' M' G' v c:=by
 cases c with
 |dead=>trivial
 |box cs=>obtain⟨b,d,T,rfl,f,r,i⟩:=h;exact⟨b,d,T,rfl,(p b rfl (Q6.1 f).1).trans f,r,i.mono hs m⟩
 |row e k cs=>
  let⟨vs,l,hk,i⟩:=h
  refine⟨vs,⟨l.1,?_⟩,hk,i.mono hs m⟩;rcases l.2 with q|⟨g,cap,d,rfl,j,f,rest⟩
  .exact .inl q
  .exact .inr ⟨g,cap,d,rfl,j,(p g rfl (Q6.1 f).1).trans f,rest⟩
def tZ.Ag{E:En}{w:Wo}{M:Nat->Prop}{G:Gh}{v:Va}{c:zO}(h:tZ E w M G v c)(m:c.live=true){b:Nat}(f:cq v=some b):
  b<w.heap.size/\(E.rb=some b\/E.w0.heap.size<=b):=by
 cases c with
 |dead=>cases m
 |box cs=>
  obtain⟨q,i,T,rfl,j,p,_⟩:=h
  grind [cq]
 |row e k cs=>
  let⟨vs,l,_⟩:=h
  rcases l.2 with⟨rfl,_⟩|⟨g,cap,i,rfl,d,j,rest⟩
  .simp[cq]at f
  .simp[cq,Qk]at f;subst f;exact⟨(Q6.1 j).1,(JH rfl d).imp (·.2) id⟩
section
variable{E:En}{S:St}{a:Act}{w:Wo}{L:Nat->Va}
def Marks.oth{w':Wo}(h:Marks E a w)(b:EO w w'):Marks E a w':=⟨h.none,h.nodup,λd c=>by
 let⟨D,h1,f,e⟩:=h.at_ d c
 exact⟨D,h1,f,b.same D _ e rfl⟩⟩
def tZ.cells{M:Nat->Prop}{G:Gh}{v:Va}{c:zO}(h:tZ E w M G v c)(l:c.live=true){b:Nat}(d:cq v=some b):∃o,w.heap[b]?=some o/\isC o=true:=by
 cases c with
 |dead=>cases l
 |box cs=>obtain⟨q,i,T,rfl,f,p,_⟩:=h;simp[cq,Qk]at d;subst d;exact⟨_,f,rfl⟩
 |row e k cs=>
  let⟨vs,j,_⟩:=h
  rcases j.2 with⟨rfl,_⟩|⟨g,cap,i,rfl,m,f,rest⟩
  .simp[cq]at d
  .simp[cq,Qk]at d;subst d;exact⟨_,f,rfl⟩
def PR{a:Act}{d t:Nat}{v:Va}(h:t≠d):(a.put (some d) v).tmps.getD t undef=a.tmps.getD t undef:=by
 simp[Act.put,Q4]
 grind
def Rel.put(h:Rel E S a w L){d:Nat}{x:PV}{v:Va}(f:E.can d)(g:bp w (bn E S L) (S.gh L) x v):
  Rel E {S with env:=bZ S.env d x} (a.put (some d) v) w L:=by
 refine⟨⟨h.defers.none,h.defers.nodup,h.defers.at_⟩,⟨by simp[Act.put,h.size.1],λt u b=> ?_⟩,λt=> ?_,h.obj,h.apart,h.fresh,h.fr,h.CB,h.an⟩
 .rw[PR (λe=>by subst e;rw[f.2]at b;cases b)]
  exact h.size.2 t u b
 show bp w (bn E S L) (S.gh L) (bZ S.env d x t) _
 by_cases c:t=d
 .subst c;have:(a.put (some t) v).tmps.getD t undef=v:=by simp[Act.put,Q4,qaS (show t<a.tmps.size by rw[h.size.1];exact f.1)]
  rw[this,cJ];exact g
 .have:(a.put (some d) v).tmps.getD t undef=a.tmps.getD t undef:=by
   simp[Act.put,Q4]
   grind
  rw[this,du _ _ c];exact h.env t
def Rel.grow(h:Rel E S a w L){w':Wo}(l:w'.os=w.os)(c:w'.tape=w.tape)(f:w'.output=w.output)(e:w.heap.size<=w'.heap.size)
  (d:∀b,b<w.heap.size->w'.heap[b]?=w.heap[b]?) (hdr:DL w w':=by first|exact DL.refl _|exact DL.of (Qs _)|exact DL.of (by first|(simp;done)|omega)):Rel E S a w' L/\dp w w' (bn E S L) (bn E S L):=by
 have hs:dp w w' (bn E S L) (bn E S L):=⟨λp v s g=>⟨(World.cell?_of_block (d _ (abW s))).trans s,g⟩,λk _ _ i g=>⟨(d k (Q6.1 i).1).trans i,g⟩⟩
 have u:EO w w':=⟨e,λk o i _=>(d k (Q6.1 i).1).trans i⟩
 refine⟨⟨h.defers.oth u,h.size,λt=>(h.env t).mono hs (Gh.le.refl _),λid q=>(h.obj id q).mono hs (Gh.le.refl _) (λb _ m=>d b m),h.apart,h.fresh,
  ⟨⟨l.trans h.fr.os,c.trans h.fr.tape,f.trans h.fr.output,QJ h.fr.size e,λb j B=>(d b (QW j h.fr.size)).trans (h.fr.block b j B),h.fr.drawn.trans hdr⟩,h.fr.ko.trans u⟩,h.CB,h.an.1.trans ⟨λb o j _ g=>⟨(d b (Q6.1 j).1).trans j,g⟩⟩,h.an.2.1,λb A=>(let⟨q1,⟨o,q2,z,r⟩,y⟩:=h.an.2.2 b A;⟨q1,⟨o,q2,z,(d b (Q6.1 r).1).trans r⟩,y⟩)⟩,hs⟩
def Rel.xN(h:Rel E S a w L){w':Wo}{id:Nat}(F:id<S.N)(o:gU)(l:Va)
  (hv:(o.aw=(S.H id).aw/\l=L id/\(S.H id).c.live=true)\/(S.H id).aw<o.aw)
  (hos:w'.os=w.os) (K:w'.tape=w.tape) (U:w'.output=w.output) (T:w.heap.size<=w'.heap.size)
  (X:∀b,b<w.heap.size->((S.H id).c.live=true->cq (L id)≠some b)->w'.heap[b]?=w.heap[b]?)
  (hl:∀b,o.c.live=true->cq l=some b->((S.H id).c.live=true/\cq (L id)=some b)\/w.heap.size<=b)
  (hnew:dp w w' (bn E S L) (bn E {S with H:=bZ S.H id o} (bZ L id l))->(S.gh L).le (St.gh {S with H:=bZ S.H id o} (bZ L id l))->
   tZ E w' (bn E {S with H:=bZ S.H id o} (bZ L id l)) (St.gh {S with H:=bZ S.H id o} (bZ L id l)) l o.c)
  (hdr:DL w w':=by first|exact DL.refl _|exact DL.of (Qs _)|exact DL.of (by first|(simp;done)|omega)):
  Rel E {S with H:=bZ S.H id o} a w' (bZ L id l)/\dp w w' (bn E S L) (bn E {S with H:=bZ S.H id o} (bZ L id l))/\(S.gh L).le (St.gh {S with H:=bZ S.H id o} (bZ L id l)):=by
 have hg:(S.gh L).le (St.gh {S with H:=bZ S.H id o} (bZ L id l)):=by
  refine⟨Qs _,λj q=> ?_⟩
  by_cases f:j=id
  .subst f;rcases hv with⟨e1,e2,_⟩|e
   .exact .inl ⟨by simp[St.gh,cJ,e1],by simp[St.gh,cJ,e2]⟩
   .grind [St.gh,cJ]
  .exact .inl ⟨by simp[St.gh,du _ _ f],by simp[St.gh,du _ _ f]⟩
 have hm:∀b,b<w.heap.size->bn E {S with H:=bZ S.H id o} (bZ L id l) b->bn E S L b:=by
  rintro b s (⟨j,q,g,hblk⟩|hX)
  case inr=>exact .inr hX
  simp only at q g
  by_cases f:j=id
  .subst f;rw[cJ]at g hblk;rcases hl b g hblk with⟨m,r⟩|m
   .exact .inl ⟨j,q,m,r⟩
   .omega
  .rw[du _ _ f]at g hblk;exact .inl ⟨j,q,g,hblk⟩
 have ho:EO w w':=⟨T,λk o R hc=>(X k (Q6.1 R).1 (λm r=>by
  let⟨o',J,h4⟩:=(h.obj id F).cells m r
  rw[R]at J;injection J with J
  rw[J,h4]at hc
  cases hc)).trans R⟩
 have hs:dp w w' (bn E S L) (bn E {S with H:=bZ S.H id o} (bZ L id l)):=by
  refine⟨λp v hp y=> ?_,λk _ _ R y=>⟨ho.same k _ R rfl,λB=>y (hm _ (Q6.1 R).1 B)⟩⟩
  have s:=abW hp;exact⟨(World.cell?_of_block (X _ s (λm r=>y (.inl ⟨id,F,m,r⟩)))).trans hp,λB=>y (hm _ s B)⟩
 refine⟨⟨h.defers.oth ho,h.size,λt=>(h.env t).mono hs hg,λj q=> ?_,?_,λj q=> ?_,?_,?_,h.an.1.trans ⟨λb o m _ y=> ?_⟩,λj b q c d EL=> ?_,λb hH=> ?_⟩,hs,hg⟩
 rotate_left 5
 .have s:=(Q6.1 m).1;exact⟨(X b s (λr J=>y (.inl ⟨id,F,r,J⟩))).trans m,λB=>y (hm b s B)⟩
 .simp only at q c
  by_cases f:j=id
  .subst f;rw[cJ]at c d;rcases hl b c d with⟨m,r⟩|m
   .exact h.an.2.1 j b q m r EL
   .have:=(E.EL b EL).1;have:=h.fr.size;omega
  .rw[du _ _ f]at c d;exact h.an.2.1 j b q c d EL
 .let⟨q2,⟨o,q3,q5,q6⟩,q4⟩:=h.an.2.2 b hH
  grind [cJ,du]
 .simp only at q ⊢
  by_cases f:j=id
  .grind [cJ]
  .rw[du _ _ f,du _ _ f]
   cases c:(S.H j).c.live with
   |false=>
    cases hc:(S.H j).c with
    |dead=>trivial
    |box cs|row e k cs=>rw[hc]at c;cases c
   |true=>refine(h.obj j q).mono hs hg (λb d s=>X b s (λm r=>f (h.apart j id b q F c m d r)))
 .intro i j b hi q z u A d;simp only at hi q z u
  by_cases N:i=id
  .by_cases D:j=id
   .rw[N,D]
   .subst N;rw[cJ]at z A;rw[du _ _ D]at u d;rcases hl b z A with⟨m,r⟩|m
    .exact h.apart i j b hi q m u r d
    .have:=((h.obj j q).Ag u d).1;omega
  .rw[du _ _ N]at z A
   by_cases D:j=id
   .subst D;rw[cJ]at u d;rcases hl b u d with⟨m,r⟩|m
    .exact h.apart i j b hi q z m A r
    .have:=((h.obj i hi).Ag z A).1;omega
   .rw[du _ _ D]at u d;exact h.apart i j b hi q z u A d
 .simp only at q ⊢;rw[du _ _ O];exact h.fresh j q
 .refine⟨⟨hos.trans h.fr.os,K.trans h.fr.tape,U.trans h.fr.output,QJ h.fr.size T,λb m r=> ?_,h.fr.drawn.trans hdr⟩,h.fr.ko.trans ho⟩
  refine(X b (QW m h.fr.size) (λJ h4=> ?_)).trans (h.fr.block b m r)
  rcases((h.obj id F).Ag J h4).2 with h5|h5
  .exact r h5
  .omega
 .intro W c I;simp only at c I
  by_cases V:0=id
  .subst V;rw[cJ]at c I ⊢;rcases hv with⟨e1,e2,e3⟩|e
   .rw[e2];exact h.CB W e3 O
   .omega
  .rw[du _ _ V]at c I ⊢;exact h.CB W c I
def Rel.drew(h:Rel E S a w L)(n:Nat)(b:w.drawn<=n:=by first|exact Qs _|exact qbL _ _|exact qa1 _|assumption|omega):Rel E S a {w with drawn:=n} L:=
 (h.grow (w':={w with drawn:=n}) rfl rfl rfl (Qs _) (λ_ _=>rfl) (DL.of b)).1
def Rel.room(h:Rel E S a w L)(k:Nat):Rel E {S with N:=S.N+k} a w L:=by
 have A:∀b,bn E {S with N:=S.N+k} L b↔bn E S L b:=by
  intro b;constructor
  .rintro(⟨j,p,c,m⟩|hX)
   case inr=>exact .inr hX
   simp only at p c
   by_cases d:j<S.N
   .exact .inl ⟨j,d,c,m⟩
   .rw[h.fresh j O]at c;cases c
  .rintro(⟨j,p,c,m⟩|hX)
   .exact .inl ⟨j,by simp only;omega,c,m⟩
   .exact .inr hX
 have hs:dp w w (bn E S L) (bn E {S with N:=S.N+k} L):=(dp.of λ_ q=>λl=>q ((A _).1 l))
 have B:(S.gh L).le (St.gh {S with N:=S.N+k} L):=⟨by simp[St.gh],λ_ _=> .inl ⟨rfl,rfl⟩⟩
 refine⟨h.defers,h.size,λt=>(h.env t).mono hs B,λid e=> ?_,λi j b hi p g f y u=> ?_,λid e=>h.fresh id (by simp only at e;omega),h.fr,h.CB,h.an.1.trans (.of λb q l=>q ((A b).1 l)),λid b e c m D=> ?_,λb z=>⟨(h.an.2.2 b z).1,(h.an.2.2 b z).2.1,λid e c=> ?_⟩⟩
 rotate_left 2
 .simp only at e c
  by_cases d:id<S.N
  .exact h.an.2.1 id b d c m D
  .rw[h.fresh id O]at c;cases c
 .simp only at e c
  by_cases d:id<S.N
  .exact(h.an.2.2 b z).2.2 id d c
  .rw[h.fresh id O]at c;cases c
 .by_cases d:id<S.N
  .exact(h.obj id d).mono hs B (λ_ _ _=>rfl)
  .simp only;rw[h.fresh id O];trivial
 .simp only at hi p g f
  have s:i<S.N:=by
   rcases qaK i S.N with h1|h1
   .exact h1
   .rw[h.fresh i h1]at g;cases g
  have r:j<S.N:=by
   rcases qaK j S.N with h1|h1
   .exact h1
   .rw[h.fresh j h1]at f;cases f
  exact h.apart i j b s r g f y u
def Rel.afI(h:Rel E S a w L){b:Nat}(d:E.X b):b<w.heap.size:=by
 by_cases c:E.H0 b
 .let⟨_,⟨o,_,_,q⟩,_⟩:=h.an.2.2 b c
  grind
 .exact QW (E.hX.lt b ⟨d,c⟩) h.fr.size
def Rel.anw(h:Rel E S a w L){b:Nat}(d:E.X b):¬gb b:=by
 by_cases c:E.H0 b
 .exact(h.an.2.2 b c).1
 .exact E.hX.ng b ⟨d,c⟩
end
end
section
open Go.RowKit
inductive bD where
 |tmp (t:Nat)
 |Bp (x:PV)
def bD.val(S:St):bD->PV
 | .tmp t=>S.env t
 | .Bp x=>x
inductive LK where
 |i
 |s
 |b
inductive cU where
 |sw (x:bD)
 |pick (c x y:bD)
 |box (x:bD)
 |Ii (x:bD)
 |alloc (z:List PV)
 |load (n:Option Nat) (p:bD)
 |store (n:Nat) (p x:bD)
 |build (z:List PV) (ps:List (Nat×Nat×bD))
 |Ua (m:Bool) (e k:Nat) (z:List (List PV)) (ps:List (Nat×bD))
 |Dv (off:Nat) (p:bD)
 |wu (k:Nat) (x i:bD)
 |DB (k len:Nat) (x i:bD)
 |bin (op:BinOp) (x y:bD)
 |nF (neg:Bool) (x y:bD)
 |M5 (neg:Bool) (x y:bD)
 |not (x:bD)
 |conv (k:IntKind) (x:bD)
 |len (isStr:Bool) (x:bD)
 |call (f:FuncId) (xs:List bD)
 |wC (fv:bD) (xs:List bD)
 |cY (fz:Bool) (e k bytes:Nat) (s x:bD)
 |Dn (x:bD)
 |Ic (i:Nat) (x:bD)
 |O7 (f:FuncId) (caps:List bD)
 |O8 (f:FuncId) (first:List bD)
 |I6 (neg:Bool) (ks:List LK) (x y:bD)
 |SR (e k bytes:Nat) (z:List PV) (l c:bD)
 |LM (k:Nat) (x:bD) (lo hi:Option bD)
 |yb (mx:Bool) (x y:bD)
 |B6 (neg:Bool) (x:bD)
 |clear (k:Nat) (z:List PV) (x:bD)
 |Ik (e:Nat) (n:Option Nat) (len k:Nat) (x i:bD)
 |Pj (n:Option Nat) (off:Nat) (x:bD)
inductive RK where
 |no
 |bor (e k:Nat)
 |T7 (e k:Nat)
 |fre (e k:Nat)
structure Model where
 recv:Bool
 pos:Nat
 fresh:Bool
 m:List PV->List PV->Option (PV×List PV)
 rk:RK
 ro:Bool
 rm:List (List PV)->List PV->Option (PV×List (List PV))
abbrev sF:=FuncId->Option Model
def cutAt{α:Type}(p:Nat)(l:Z α):Z α:=l.take p++l.drop (p+1)
def my{α:Type}(p:Nat)(x l:Z α):Z α:=l.take p++x++l.drop p
def PV.closed:PV->Bool
 | .int ..| .bool _| .str _| .nj| .eV| .sl _| .ref _| .og ..| .bJ _ []=>true
 |_=>false
def PV.tG:PV->Bool
 | .agg cs=>cs.all PV.plain
 |x=>x.plain
def PV.xU:PV->Bool
 | .ff cs=>cs.all PV.tG
 |x=>x.tG
def PV.bP:PV->Bool
 | .agg cs| .ff cs| .bJ _ cs=>cs.all PV.closed
 |x=>x.closed
def PV.yZ:PV->Bool
 | .ff cs=>cs.all PV.bP
 |x=>x.bP
def fz(H:Nat->gU)(ex:Y Nat):Nat->PV->PV
 |0,x=>match x with| .eV=> .sl []|x=>if x.closed then x else .any
 |_+1,.eV=> .sl []
 |n+1,.own id aw=>if some id=ex\/(H id).aw≠aw then .any else
   match(H id).c with
   | .row _ _ es=> .sl (es.map λe=>e.map (fz H ex n))
   |_=> .any
 |n+1,.ptr id aw off=>if some id=ex\/(H id).aw≠aw then .any else
   match(H id).c with
   | .box cs=> .ref ((cs.map (fz H ex n)).drop off)
   |_=> .any
 |n+1,.agg cs=> .agg (cs.map (fz H ex n))
 |n+1,.ff cs=> .ff (cs.map (fz H ex n))
 |n+1,.bJ f cs=> .bJ f (cs.map (fz H ex n))
 |_+1,x=>if x.closed then x else .any
def nz:PV->PV
 | .eV=> .sl []
 |x=>x
def PV.YG:PV->Bool
 | .eV=>false
 |_=>true
def F1(es:Z (Z PV)):Z (Z PV):=es.map λe=>e.map nz
def DO(es:Z (Z PV)):Bool:=es.all λu=>u.all PV.closed
def Me(es:Z (Z PV)):Bool:=es.all λu=>u.all PV.plain
def Db(m:Model)(e k:Nat)(S:St)(c:Z PV):Y (PV×Y (Nat×gU)):=
 match c with
 | .own id aw::rest=>
  if(S.H id).aw=aw then
   match(S.H id).c with
   | .row d k' es=>
    if d=e/\k'=k/\DO es=true then
     match m.rm es (rest.map (fz S.H (some id) 9))with
     |some (r,b)=>if(r.xU||rest.all PV.bP&&r.yZ)&&DO b&&(Me b||rest.all PV.bP)then some (r,some (id,⟨aw,.row e k b⟩))else none
     |none=>none
    else none
   |_=>none
  else none
 |_=>none
def Da(m:Model)(e k:Nat)(S:St)(c:Z PV):Y (PV×Y (Nat×gU)):=
 match c with
 | .own id aw::rest=>
  if(S.H id).aw=aw then
   match(S.H id).c with
   | .row d k' es=>
    if d=e/\k'=k/\DO es=true then
     match m.rm es (rest.map (fz S.H (some id) 9))with
     |some (_,b)=>if DO b&&(Me b||rest.all PV.bP)then some (.own id (aw+1),some (id,⟨aw+1,.row e k b⟩))else none
     |none=>none
    else none
   |_=>none
  else none
 |_=>none
def Ja(m:Model)(e k:Nat)(nid:Nat)(S:St)(b:Z PV):Y (PV×Y (Nat×gU)):=
 match m.rm [] (b.map (fz S.H none 9))with
 |some (_,c)=>if DO c&&(Me c||b.all PV.bP)then some (.own nid ((S.H nid).aw+1),some (nid,⟨(S.H nid).aw+1,.row e k c⟩))else none
 |none=>none
def pF(Γ:sF)(nid:Nat)(S:St)(f:FI)(b:Z PV):Y (PV×Y (Nat×gU)):=
 match Γ f with
 |none=>none
 |some m=>
  match m.rk with
  | .bor e k=>Db m e k S b
  | .T7 e k=>Da m e k S b
  | .fre e k=>Ja m e k nid S b
  | .no=>
  if m.fresh then
   match m.m [] (b.map (fz S.H none 9))with
   |some (_,cs)=>if cs.all PV.closed&&(cs.all PV.plain||b.all PV.bP)then some (.ptr nid ((S.H nid).aw+1) 0,some (nid,⟨(S.H nid).aw+1,.box cs⟩))else none
   |none=>none
  else if m.recv then
   match b[m.pos]? with
   |some (.ptr id aw 0)=>
    if(S.H id).aw=aw then
     match(S.H id).c with
     | .box cs=>
      if cs.all PV.closed then
       match m.m (cs.map nz) ((cutAt m.pos b).map (fz S.H (some id) 9))with
       |some (r,cs')=>if(r.xU||(cutAt m.pos b).all PV.bP)&&r.yZ&&cs'.all PV.closed&&(cs'.all PV.plain||(cutAt m.pos b).all PV.bP)then some (r,if m.ro&&cs.all PV.YG then none else some (id,⟨aw,.box cs'⟩))else none
       |none=>none
      else none
     |_=>none
    else none
   |_=>none
  else
   match m.m [] (b.map (fz S.H none 9))with
   |some (r,_)=>if r.xU||b.all PV.bP&&r.yZ then some (r,none)else none
   |none=>none
def Ni(op:BinOp)(k:IntKind)(a b:Int):Y PV:=
 match op with
 | .add=>some (.int k (k.wrap (a+b)))
 | .sub=>some (.int k (k.wrap (a - b)))
 | .mul=>some (.int k (k.wrap (a*b)))
 | .quo=>if b=0 then none else some (.int k (k.wrap (a.tdiv b)))
 | .rem=>if b=0 then none else some (.int k (a.tmod b))
 | .and=>some (.int k (k.wrap ((BitVec.ofInt k.bits a&&&BitVec.ofInt k.bits b).toNat)))
 | .or=>some (.int k (k.wrap ((BitVec.ofInt k.bits a|||BitVec.ofInt k.bits b).toNat)))
 | .xor=>some (.int k (k.wrap ((BitVec.ofInt k.bits a^^^BitVec.ofInt k.bits b).toNat)))
 | .andNot=>some (.int k (k.wrap ((BitVec.ofInt k.bits a&&& ~~~ BitVec.ofInt k.bits b).toNat)))
 | .eql=>some (.bool (decide (a=b)))
 | .neq=>some (.bool (!decide (a=b)))
 | .lss=>some (.bool (decide (a<b)))
 | .leq=>some (.bool (decide (a<=b)))
 | .gtr=>some (.bool (decide (b<a)))
 | .geq=>some (.bool (decide (b<=a)))
 |_=>none
def nf(a b:C):Bool:=Op.bytesLess a.toList b.toList
def Ud(op:BinOp)(a b:C):Y PV:=
 match op with
 | .eql=>some (.bool (decide (a=b)))
 | .neq=>some (.bool (!decide (a=b)))
 | .lss=>some (.bool (nf a b))
 | .leq=>some (.bool (nf a b||decide (a=b)))
 | .gtr=>some (.bool (!(nf a b||decide (a=b))))
 | .geq=>some (.bool (!nf a b))
 |_=>none
def N9(op:BinOp)(x y:PV):Y PV:=
 match x,y with
 | .int k a,.int k' b=>
  match op with
  | .shl=>if b<0 then none else some (.int k (k.wrap (a*2 ^ (min b.toNat k.bits))))
  | .shr=>if b<0 then none else some (.int k (a.fdiv (2 ^ (min b.toNat k.bits))))
  |_=>if k=k' then Ni op k a b else none
 | .str a,.str b=>Ud op a b
 |_,_=>none
def xy:Y Nat->Z PV->Y PV
 |none,x::_=>some x
 |none,[]=>none
 |some n,cs=>if n<=cs.length then some (.agg (cs.take n))else none
def jI(cs:Z PV)(off:Nat)(xs:Z PV):Z PV:=cs.take off++xs++cs.drop (off+xs.length)
def jY(S:St):PV->Y (Z (Z PV))
 | .eV=>some []
 | .sl es=>some es
 | .own id aw=>if(S.H id).aw=aw then(match(S.H id).c with| .row _ _ es=>some es|_=>none)else none
 | .view id aw k lo n=>if(S.H id).aw=aw then(match(S.H id).c with| .row _ k' es=>if k'=k then some ((es.drop lo).take n)else none|_=>none)else none
 |_=>none
def xf(S:St)(y:Y bD)(d:Int):Y Int:=
 match y with
 |none=>some d
 |some l=>match l.val S with| .int _ n=>some n|_=>none
def vn(S:St):Z PV->Z (Nat×Nat×bD)->Y (Z PV)
 |cs,[]=>some cs
 |cs,(off,n,x)::rest=>if(x.val S).cells.length=n/\off+n<=cs.length/\(x.val S).cells.all PV.one=true then vn S (jI cs off (x.val S).cells) rest else none
def yl(S:St)(k:Nat):Z (Z PV)->Z (Nat×bD)->Y (Z (Z PV))
 |es,[]=>some es
 |es,(i,x)::rest=>if(x.val S).cells.length=k/\i<es.length/\(x.val S).cells.all PV.one=true then yl S k (es.set i (x.val S).cells) rest else none
def pD:Z LK->Z PV->Z PV->Y Bool
 |[],[],[]=>some true
 | .i::ks,.int k a::cs,.int l b::c=>if k=l then(pD ks cs c).map λr=>decide (a=b)&&r else none
 | .s::ks,.str a::cs,.str b::c| .b::ks,.bool a::cs,.bool b::c=>(pD ks cs c).map λr=>decide (a=b)&&r
 |_,_,_=>none
def Nk(z:Bool)(id aw e k:Nat)(es:Z (Z PV)):Y (PV×Y (Nat×gU)):=
 match z with
 |false=>some (.own id aw,some (id,⟨aw,.row e k es⟩))
 |true=>if es.all (λu=>u.all PV.closed)then some (.sl es,some (id,⟨aw,.dead⟩))else none
def exec(Γ:sF)(nid:Nat)(S:St):cU->Y (PV×Y (Nat×gU))
 | .sw x=>some (x.val S,none)
 | .pick c x y=>match c.val S with
  | .bool true=>some (x.val S,none)
  | .bool false=>some (y.val S,none)
  |_=>none
 | .box x=>if(x.val S).cells.all PV.one then some (.ptr nid ((S.H nid).aw+1) 0,some (nid,⟨(S.H nid).aw+1,.box (x.val S).cells⟩))else none
 | .Ii x=>if(x.val S).cells.all PV.one&&(x.val S).cells.all PV.closed then some (.ref (x.val S).cells,none)else none
 | .alloc z=>some (.ptr nid ((S.H nid).aw+1) 0,some (nid,⟨(S.H nid).aw+1,.box z⟩))
 | .load n p=>match p.val S with
  | .ptr id aw off=>if(S.H id).aw=aw then(match(S.H id).c with| .box cs=>(xy n (cs.drop off)).map (·,none)|_=>none)else none
  | .fK id aw k i off=>if(S.H id).aw=aw then(match(S.H id).c with| .row _ k' es=>if k=k' then(match es[i]? with|some e=>(xy n (e.drop off)).map (·,none)|none=>none)else none|_=>none)else none
  | .ref cs=>(xy n cs).map (·,none)
  |_=>none
 | .store n p x=>if(x.val S).cells.length=n/\(x.val S).cells.all PV.one=true then
   match p.val S with
   | .ptr id aw off=>if(S.H id).aw=aw then(match(S.H id).c with| .box cs=>if off+n<=cs.length then some (.undef,some (id,⟨aw,.box (jI cs off (x.val S).cells)⟩))else none|_=>none)else none
   | .fK id aw k i off=>if(S.H id).aw=aw then(match(S.H id).c with| .row e k' es=>if k=k' then(match es[i]? with|some c=>if off+n<=c.length then some (.undef,some (id,⟨aw,.row e k (es.set i (jI c off ((x.val S).cells.map nz)))⟩))else none|none=>none)else none|_=>none)else none
   |_=>none
  else none
 | .build z ps=>(vn S z ps).map λcs=>(.agg cs,none)
 | .Ua m e k z ps=>match yl S k z ps with
  |some es=>if m=false/\es.all (λu=>u.all PV.closed)=true then some (.sl (F1 es),none)else some (.own nid ((S.H nid).aw+1),some (nid,⟨(S.H nid).aw+1,.row e k (F1 es)⟩))
  |none=>none
 | .Dv off p=>match p.val S with
  | .ptr id aw o=>if(S.H id).aw=aw then(match(S.H id).c with| .box _=>some (.ptr id aw (o+off),none)|_=>none)else none
  | .fK id aw k i o=>if(S.H id).aw=aw then(match(S.H id).c with| .row _ _ es=>if i<es.length then some (.fK id aw k i (o+off),none)else none|_=>none)else none
  | .ref cs=>some (.ref (cs.drop off),none)
  |_=>none
 | .wu k x i=>match i.val S with
  | .int _ n=>match x.val S with
   | .sl es=>if 0<=n/\n<es.length then(match es[n.toNat]? with|some e=>if e.length=k then some (.ref e,none)else none|none=>none)else none
   | .own id aw=>if(S.H id).aw=aw then(match(S.H id).c with| .row _ k' es=>if k=k'/\0<=n/\n<es.length then some (.fK id aw k n.toNat 0,none)else none|_=>none)else none
   | .view id aw g lo m=>if(S.H id).aw=aw then(match(S.H id).c with| .row _ k' es=>if k=k'/\g=k/\0<=n/\n<m/\lo+n.toNat<es.length then some (.fK id aw k (lo+n.toNat) 0,none)else none|_=>none)else none
   |_=>none
  |_=>none
 | .DB k len x i=>match i.val S with
  | .int _ n=>if 0<=n/\n<len then(match x.val S with
   | .ptr id aw o=>if(S.H id).aw=aw then(match(S.H id).c with| .box _=>some (.ptr id aw (o+n.toNat*k),none)|_=>none)else none
   | .ref cs=>some (.ref (cs.drop (n.toNat*k)),none)
   |_=>none)else none
  |_=>none
 | .bin op x y=>(N9 op (x.val S) (y.val S)).map (·,none)
 | .nF neg x y=>match x.val S,y.val S with
  | .agg [.int k a,.str s],.agg [.int k' b,.str t]=>if k=k' then some (.bool (xor neg (decide (a=b)&&decide (s=t))),none)else none
  |_,_=>none
 | .I6 neg ks x y=>match x.val S,y.val S with
  | .agg cs,.agg B=>(pD ks cs B).map λb=>(.bool (xor neg b),none)
  |_,_=>none
 | .M5 neg x y=>match x.val S,y.val S with
  | .bool a,.bool b=>some (.bool (xor neg (decide (a=b))),none)
  |_,_=>none
 | .not x=>match x.val S with
  | .bool b=>some (.bool !b,none)
  |_=>none
 | .conv k x=>match x.val S with
  | .int _ n=>some (.int k (k.wrap n),none)
  |_=>none
 | .len true x=>match x.val S with
  | .str s=>some (.int .i64 s.size,none)
  |_=>none
 | .len false x=>(jY S (x.val S)).map λes=>(.int .i64 es.length,none)
 | .call f xs=>pF Γ nid S f (xs.map (·.val S))
 | .wC r xs=>match r.val S with
  | .bJ f d=>pF Γ nid S f (xs.map (·.val S)++d)
  | .kP f first=>pF Γ nid S f (first++xs.map (·.val S))
  |_=>none
 | .cY z e k bytes s x=>match jY S (x.val S)with
  |some news=>if news.all (λu=>u.length==k&&u.all PV.one)then(match s.val S with
   | .eV=>if news.length*bytes<=140737488355328/\news.length<=maxLen then Nk z nid ((S.H nid).aw+1) e k news else none
   | .own id aw=>if(S.H id).aw=aw then(match(S.H id).c with
    | .row A k' es=>if e=A/\k=k'/\(es.length+news.length)*bytes<=140737488355328/\es.length+news.length<=maxLen then Nk z id (aw+1) e k (es++news)else none
    |_=>none)else none
   |_=>none)else none
  |none=>none
 | .Dn x=>match x.val S with
  | .ptr id aw off=>if(S.H id).aw=aw then(match(S.H id).c with| .box _=>some (.ptr id aw off,none)|_=>none)else none
  | .ref cs=>some (.ref cs,none)
  | .bJ f cs=>some (.bJ f cs,none)
  |_=>none
 | .Ic i x=>match x.val S with
  | .ff cs=>(cs[i]?).map (·,none)
  |_=>none
 | .O7 f d=>some (.bJ f (d.map (·.val S)),none)
 | .O8 f first=>some (.kP f (first.map (·.val S)),none)
 | .SR e k bytes z l c=>match l.val S,c.val S with
  | .int _ n,.int _ m=>if n<=m/\0<=n/\m.toNat*bytes<=140737488355328/\m.toNat<=maxLen then some (.own nid ((S.H nid).aw+1),some (nid,⟨(S.H nid).aw+1,.row e k (replicate n.toNat (z.map nz))⟩))else none
  |_,_=>none
 | .LM k x lo hi=>match x.val S with
  | .sl es=>if es.all (λe=>e.length==k)then
   match(match lo with|none=>some (0:Int)|some l=>(match l.val S with| .int _ n=>some n|_=>none)),(match hi with|none=>some (es.length:Int)|some h=>(match h.val S with| .int _ n=>some n|_=>none))with
   |some l,some h=>if 0<=l/\l<=h/\h<=es.length then some (.sl ((es.take h.toNat).drop l.toNat),none)else none
   |_,_=>none
   else none
  | .own id aw=>if(S.H id).aw=aw then(match(S.H id).c with
   | .row _ k' es=>if k=k' then
    match xf S lo 0,xf S hi es.length with
    |some l,some h=>if 0<=l/\l<=h/\h<=es.length then some (.view id aw k l.toNat (h.toNat - l.toNat),none)else none
    |_,_=>none
    else none
   |_=>none)else none
  | .view id aw g q n0=>if(S.H id).aw=aw then(match(S.H id).c with
   | .row _ k' _=>if k=k'/\g=k then
    match xf S lo 0,xf S hi n0 with
    |some l,some h=>if 0<=l/\l<=h/\h<=n0 then some (.view id aw k (q+l.toNat) (h.toNat - l.toNat),none)else none
    |_,_=>none
    else none
   |_=>none)else none
  |_=>none
 | .yb mx x y=>match x.val S,y.val S with
  | .int k a,.int k' b=>if k=k' then some (.int k (if mx then(if b>a then b else a)else(if b<a then b else a)),none)else none
  |_,_=>none
 | .B6 neg x=>match x.val S with
  | .eV=>some (.bool !neg,none)
  |y=>match jY S y with
   |some []=>some (.iD,none)
   |some (_::_)=>some (.bool neg,none)
   |none=>none
 | .Ik _ n len k x i=>match x.val S,i.val S with
  | .agg cs,.int _ j=>if 0<=j/\j<len then(xy n ((cs.drop (j.toNat*k)).map nz)).map (·,none)else none
  |_,_=>none
 | .Pj n off x=>match x.val S with
  | .agg cs=>(xy n (cs.drop off)).map (·,none)
  |_=>none
 | .clear k z x=>match x.val S with
  | .view id aw g lo n=>if(S.H id).aw=aw then(match(S.H id).c with
   | .row e k' es=>if k=k'/\g=k/\z.length=k/\z.all PV.one=true then some (.ff [],some (id,⟨aw,.row e k (es.take lo++replicate n (z.map nz)++es.drop (lo+n))⟩))else none
   |_=>none)else none
  |_=>none
structure SG where
 d:Option Nat
 g:Option (Nat×Bool)
 op:cU
def St.cY(S:St)(d:Y Nat)(x:PV)(wr:Y (Nat×gU)):St:=
 {env:=match d with|some d=>bZ S.env d x|none=>S.env,H:=match wr with|some (id,o)=>bZ S.H id o|none=>S.H,N:=S.N}
def SG.wanted(S:St)(o:SG):Y Bool:=
 match o.g with
 |none=>some true
 |some (t,want)=>match S.env t with
  | .bool b=>some (b==want)
  | .undef=>some false
  |_=>none
def zT(Γ:sF)(nid:Nat)(S:St)(o:SG):Y St:=
 match o.wanted S with
 |some true=>(exec Γ nid S o.op).map λp=>S.cY o.d p.1 p.2
 |some false=>some (S.cY o.d .undef none)
 |none=>none
def Ej(Γ:sF):Nat->Z SG->St->Y St
 |_,[],S=>some S
 |nid,o::rest,S=>match zT Γ nid S o with
  |some S'=>Ej Γ (nid+1) rest S'
  |none=>none
def I8:Va->Y PV
 | .bool b=>some (.bool b)
 | .int k n=>some (.int k n)
 | .string s=>some (.str s)
 | .pointer none=>some .nj
 | .slice none 0 0=>some .eV
 | .nilFunc=>some .any
 |_=>none
def bK:Od->Y bD
 | .tmp t=>some (.tmp t)
 | .const v=>(I8 v).map .Bp
 | .func f=>some (.Bp (.bJ f []))
 | .global _=>none
def xm(P:Pr)(t:TI):Y (Y Nat):=
 match P.underlying t with
 |some (.struct _)|some (.array _ _)=>(P.info? t).map λi=>some i.size
 |some _=>some none
 |none=>none
def yM(P:Pr)(t:TI):Y (Z PV):=
 match P.info? t with
 |some i=>match i.zero with
  |some z=>if z.cells.size=i.size then z.cells.toList.mapM I8 else none
  |none=>none
 |none=>none
def Ae(b:Nat->Y (Nat×Nat))(c:Z (Nat×Od)):Y (Z (Nat×Nat×bD)):=
 c.mapM λp=>do
  let q <-b p.1
  let y <-bK p.2
  some (q.1,q.2,y)
def Vs(P:Pr)(b:TI->Y (Z LK)):Z Field->Nat->Y (Z LK)
 |[],_=>some []
 |f::c,off=>
  if f.name≠ "_"/\f.offset=off then
   match b f.type,P.info? f.type with
   |some ks,some i=>if i.size=ks.length then(Vs P b c (off+ks.length)).map (ks++·)else none
   |_,_=>none
  else none
def C9(P:Pr):Nat->TI->Y (Z LK)
 |0,_=>none
 |d+1,t=>match P.underlying t with
  |some (.int _)=>some [.i]
  |some .string=>some [.s]
  |some .bool=>some [.b]
  |some (.struct b)=>if P.stoodInHeld t=false then Vs P (C9 P d) b.toList 0 else none
  |_=>none
def aho(hs:Z Nat)(o:Oper):Bool:=match o.dst with|some t=>hs.contains t|none=>false
def Hv(P:Pr)(hs:Z Nat)(o:Oper):Y cU:=
 match o.op with
 | .move x| .assign x=>do some (.sw (<-bK x))
 | .pick c a b=>do some (.pick (<-bK c) (<-bK a) (<-bK b))
 | .box _ x=>do
  let y <-bK x
  some (match o.dst with|some t=>(match hs.contains t with|true=> .Ii y|false=> .box y)|none=> .box y)
 | .alloc t=>do some (.alloc (<-yM P t))
 | .load t p=>do some (.load (<-xm P t) (<-bK p))
 | .store t p x=>do some (.store (<-P.info? t).size (<-bK p) (<-bK x))
 | .build t parts=>
  match P.underlying t with
  |some (.struct fields)=>do
   let z <-yM P t
   let d <-fields.toList.mapM (λf=>(P.info? f.type).map λi=>(f.offset,i.size))
   some (.build z (<-Ae (λi=>d[i]?) parts.toList))
  |some (.array _ e)=>do
   let z <-yM P t
   let i <-P.info? e
   some (.build z (<-Ae (λj=>some (j*i.size,i.size)) parts.toList))
  |_=>none
 | .buildSlice t len parts=>
  match P.underlying t with
  |some (.slice e)=>do
   let i <-P.info? e
   let z <-yM P e
   let ps <-parts.toList.mapM λp=>(bK p.2).map λy=>(p.1,y)
   if len*i.size<=16777216/\0<i.size/\len<=maxLen then some (.Ua (match o.dst with|some t=>hs.contains t|none=>true) e i.size (replicate len z) ps)else none
  |_=>none
 | .fieldAddr s x f=>
  match P.underlying s with
  |some (.struct fields)=>do
   let fd <-fields[f]?
   let i <-P.info? fd.type
   if i.size=0 then none else some (.Dv fd.offset (<-bK x))
  |_=>none
 | .indexAddr t x i=>
  match P.underlying t with
  |some (.slice e)=>do some (.wu (<-P.info? e).size (<-bK x) (<-bK i))
  |some (.array n e)=>do some (.DB (<-P.info? e).size n (<-bK x) (<-bK i))
  |_=>none
 | .binOp op t x y _=>
  match P.underlying t with
  |some (.struct q)=>
   match q.toList with
   |[f,g]=>
    match P.underlying f.type,P.underlying g.type with
    |some (.int _),some .string=>
     if f.offset=0/\g.offset=1/\f.name≠ "_"/\g.name≠ "_"/\P.stoodInHeld t=false/\P.eqGuardType P.depth t=false then
      match op with
      | .eql=>do some (.nF false (<-bK x) (<-bK y))
      | .neq=>do some (.nF true (<-bK x) (<-bK y))
      |_=>none
     else none
    |_,_=>
     match C9 P 64 t with
     |some ks=>
      if P.eqGuardType P.depth t=false then
       match op with
       | .eql=>do some (.I6 false ks (<-bK x) (<-bK y))
       | .neq=>do some (.I6 true ks (<-bK x) (<-bK y))
       |_=>none
      else none
     |none=>none
   |_=>
    match C9 P 64 t with
    |some ks=>
     if P.eqGuardType P.depth t=false then
      match op with
      | .eql=>do some (.I6 false ks (<-bK x) (<-bK y))
      | .neq=>do some (.I6 true ks (<-bK x) (<-bK y))
      |_=>none
     else none
    |none=>none
  |some (.slice _)=>
   match y with
   | .const (.slice none 0 0)=>
    match op with
    | .eql=>do some (.B6 false (<-bK x))
    | .neq=>do some (.B6 true (<-bK x))
    |_=>none
   |_=>none
  |some .bool=>
   match op with
   | .eql=>do some (.M5 false (<-bK x) (<-bK y))
   | .neq=>do some (.M5 true (<-bK x) (<-bK y))
   |_=>none
  |_=>do some (.bin op (<-bK x) (<-bK y))
 | .unOp .not _ x=>do some (.not (<-bK x))
 | .convert src dst x=>
  match P.underlying src,P.underlying dst with
  |some (.int _),some (.int k)=>do some (.conv k (<-bK x))
  |_,_=>none
 | .index t x i=>
  match P.underlying t with
  |some (.array len e)=>do some (.Ik e (<-xm P e) len (<-P.info? e).size (<-bK x) (<-bK i))
  |_=>none
 | .lookup t m x ok=>none
 | .nilCheck x=>do some (.Dn (<-bK x))
 | .extract x i=>do some (.Ic i (<-bK x))
 | .makeFunc (.func f) first h=>if first.size=0 then do some (.O7 f (<-h.toList.mapM bK))else if h.size=0 then do some (.O8 f (<-first.toList.mapM bK))else none
 | .makeSlice t l c=>
  match P.underlying t with
  |some (.slice e)=>do
   let i <-P.info? e
   if 0<i.size then some (.SR e i.size i.bytes (<-yM P e) (<-bK l) (<-bK c))else none
  |_=>none
 | .slice t x lo hi none=>
  match P.underlying t with
  |some (.slice e)=>do
   let i <-P.info? e
   some (.LM i.size (<-bK x) (<-lo.mapM bK) (<-hi.mapM bK))
  |_=>none
 | .call {callee:= .value f,args,..}=>do
  let xs <-args.toList.mapM bK
  match f with
  | .func f=>some (.call f xs)
  |_=>some (.wC (<-bK f) xs)
 | .call {callee:= .builtin b,args,argTypes}=>
  match b,args.toList,argTypes.toList with
  | .len,[x],[t]=>
   match P.underlying t with
   |some .string=>do some (.len true (<-bK x))
   |some (.slice _)=>do some (.len false (<-bK x))
   |_=>none
  | .append,[s,x],[t,r]=>
   match P.underlying t with
   |some (.slice e)=>do
    let i <-P.info? e
    let z <-i.zero
    if t=r/\z.cells.size=i.size/\0<i.size then some (.cY (aho hs o) e i.size i.bytes (<-bK s) (<-bK x))else none
   |_=>none
  | .clear,[x],[t]=>
   match P.underlying t with
   |some (.slice e)=>do
    let i <-P.info? e
    some (.clear i.size (<-yM P e) (<-bK x))
   |_=>none
  | .min,[x,y],_=>do some (.yb false (<-bK x) (<-bK y))
  | .max,[x,y],_=>do some (.yb true (<-bK x) (<-bK y))
  |_,_,_=>none
 | .field t x i=>
  match P.underlying t with
  |some (.struct q)=>
   match q[i]? with
   |some f=>do some (.Pj (<-xm P f.type) f.offset (<-bK x))
   |none=>none
  |_=>none
 |_=>none
end
section
open Go.RowKit
def Mc(recv:Bool)(rb:Nat)(X:Nat->Prop)(b:Nat):Prop:=(recv=true/\b=rb)\/X b
def Enters(P:Pr)(f:FI):Prop:=∃fn,P.funcs[f]?=some fn/\fn.body.isSome=true/\(fn.name== "runtime.NumGoroutine")=false
def Ap(recv:Bool)(rb:Nat):Z Va:=if recv then[.pointer (some ⟨rb,0,none⟩)]else[]
def ab3(recv:Bool)(rb:Nat)(X:Nat->Prop)(w:Wo)(r:PV)(cs':Z PV)(e:Ending)(w':Wo):Prop:=
 ∃(v:Va) (b:Z Va),e= .returned v/\bp w' (Mc recv rb X) dz r v/\(recv=true->(∃T,w'.heap[rb]?=some (.cells b.toArray T (0,0)))/\bo w' (Mc recv rb X) dz cs' b)/\
  Fr (if recv then some rb else none) w w'
def Of(P:Pr)(f:FI)(pos:Nat)(recv:Bool)(cs c:Z PV)(r:PV)(cs':Z PV):Prop:=
 ∀(w:Wo) (X:Nat->Prop) (_:zw w X) (rb:Nat) (T:TI) (b vs:Z Va),
  (recv=true->w.heap[rb]?=some (.cells b.toArray T (0,0))/\bo w (Mc recv rb X) dz cs b/\¬gb rb)->bo w (Mc recv rb X) dz c vs->
  Calls P f (my pos (Ap recv rb) vs).toArray w (ab3 recv rb X w r cs')
abbrev Con(P:Pr)(f:FI):=Of P f 0
def Wy{α:Type}(p:Nat)(l:Z α):my p [] l=l:=by simp[my]
def adS(P:Pr)(f:FI)(d cs:Z PV):Prop:=
 ∀(w:Wo) (X:Nat->Prop) (_:zw w X) (vs:Z Va),bo w X dz d vs->
  Calls P f vs.toArray w λe w'=>∃(b:Nat) (c:Z Va) (T:TI),e= .returned (.pointer (some ⟨b,0,none⟩))/\w.heap.size<=b/\w'.heap[b]?=some (.cells c.toArray T (0,0))/\bo w' (λq=>X q\/q=b) dz cs c/\Fr none w w'
def Ci(w:Wo)(M:Nat->Prop)(e k:Nat)(v:Va)(es:Z (Z PV)):Prop:=
 ∃(vs:Z Va),w.ownsRow 0 e k v es.length vs/\(∀x∈es,x.length=k)/\bo w M dz es.flatten vs
def Mv(v:Va)(X:Nat->Prop)(b:Nat):Prop:=cq v=some b\/X b
def adR(P:Pr)(f:FI)(e k:Nat)(es:Z (Z PV))(c:Z PV)(r:PV)(d:Z (Z PV)):Prop:=
 ∀(w:Wo) (X:Nat->Prop) (_:zw w X) (v:Va) (vs:Z Va),(∀b,cq v=some b->¬X b/\¬gb b)->Ci w (Mv v X) e k v es->bo w (Mv v X) dz c vs->
  Calls P f (v::vs).toArray w λg w'=>∃u,g= .returned u/\bp w' (Mv v X) dz r u/\Ci w' (Mv v X) e k v d/\Fr (cq v) w w'
def RP(P:Pr)(f:FI)(e k:Nat)(es:Z (Z PV))(c:Z PV)(d:Z (Z PV)):Prop:=
 ∀(w:Wo) (X:Nat->Prop) (_:zw w X) (v:Va) (vs:Z Va),(∀b,cq v=some b->¬X b/\¬gb b)->Ci w (Mv v X) e k v es->bo w (Mv v X) dz c vs->
  Calls P f (v::vs).toArray w λg w'=>∃u,g= .returned u/\Ci w' (Mv u X) e k u d/\(∀b,cq u=some b->cq v=some b\/w.heap.size<=b)/\Fr (cq v) w w'
def aak(P:Pr)(f:FI)(c:Z PV)(e k:Nat)(d:Z (Z PV)):Prop:=
 ∀(w:Wo) (X:Nat->Prop) (_:zw w X) (vs:Z Va),bo w X dz c vs->
  Calls P f vs.toArray w λg w'=>∃u,g= .returned u/\Ci w' (Mv u X) e k u d/\(∀b,cq u=some b->w.heap.size<=b)/\Fr none w w'
structure Fr2 (b c:Nat) (w0 w:World):Prop where
 os:w.os=w0.os
 tape:w.tape=w0.tape
 output:w.output=w0.output
 size:w0.heap.size<=w.heap.size
 block:∀k,k<w0.heap.size->k≠b->k≠c->w.heap[k]?=w0.heap[k]?
 drawn:DL w0 w
def KI(P:Pr)(f:FI)(m:Model):Prop:=
 match m.rk with
 | .no=>True
 | .bor e k=>∀es b r c,m.rm es b=some (r,c)->adR P f e k es b r c
 | .T7 e k=>∀es b r c,m.rm es b=some (r,c)->RP P f e k es b c
 | .fre e k=>∀b r c,m.rm [] b=some (r,c)->aak P f b e k c
def afF(P:Pr)(f:FI)(m:Model):Prop:=
 Enters P f/\(m.fresh=false->∀cs b r cs',m.m cs b=some (r,cs')->Of P f m.pos m.recv cs b r cs')/\(m.fresh=true->∀b r cs,m.m [] b=some (r,cs)->adS P f b cs)/\KI P f m/\(m.ro=true->∀cs b r cs',m.m cs b=some (r,cs')->cs'=cs)
def rE(P:Pr)(Γ:sF):Prop:=∀f m,Γ f=some m->afF P f m
section
variable{P:Pr}{E:En}{S:St}{a:Act}{w:Wo}{L:Nat->Va}
def Pt{M:Nat->Prop}{G:Gh}{v:Va}{x:PV}(h:I8 v=some x):bp w M G x v:=by unfold I8 at h;split at h<;>first|(injection h with h;subst h;first|exact .bool _|exact .int _ _|exact .str _|exact .nj|exact .eV|exact .any _)|cases h
def Rel.ke(h:Rel E S a w L){x:Od}{y:bD}(b:bK x=some y):bp w (bn E S L) (S.gh L) (y.val S) (a.eval x):=by
 cases x with
 |tmp t=>simp[bK,Qk]at b;subst b;exact h.env t
 |const v=>simp[bK,Qq]at b;obtain⟨p,d,rfl⟩:=b;exact Pt d
 |global g=>simp[bK]at b
 |func f=>simp[bK,Qk]at b;subst b;exact .bJ f [] [] rfl (λi x v c _=>by simp at c)
def Rel.dZ(h:Rel E S a w L):∀{xs:Z Od} {c:Z bD},xs.mapM bK=some c->bo w (bn E S L) (S.gh L) (c.map (·.val S)) (xs.map a.eval)
 |[],c,b=>by simp at b;subst b;exact .nil
 |x::xs,c,b=>by simp[qaa,Qu,Qm,qaf,Qk]at b;obtain⟨y,e,f,d,rfl⟩:=b;exact .cons (h.ke e) (h.dZ d)
section
variable{M:Nat->Prop}{G:Gh}{v:Va}
def bp.qC{b:Bool}(h:bp w M G (.bool b) v):v= .bool b:=by cases h;rfl
def bp.jT{k:IntKind}{n:Int}(h:bp w M G (.int k n) v):v= .int k n:=by cases h;rfl
def bp.CL{s:C}(h:bp w M G (.str s) v):v= .string s:=by cases h;rfl
def bp.wc(h:bp w M G .eV v):v= .slice none 0 0:=by cases h;rfl
def bp.plain{w':Wo}{M M':Nat->Prop}{G G':Gh}{y:PV}{v:Va}(b:y.plain=true)(h:bp w M G y v):bp w' M' G' y v:=by
 induction h generalizing G' with
 |_=>first|(simp[PV.plain]at b;done)|constructor
def bp.ad3(h:bp w M G .undef v):v=Go.undef:=by cases h;rfl
def bp.Is{cs:Z PV}(h:bp w M G (.ff cs) v):∃vs:Z Va,v= .tuple vs.toArray/\bo w M G cs vs:=by cases h with|ff _ vs b h=>exact⟨vs,rfl,b,h⟩
def bp.vr{cs:Z PV}(h:bp w M G (.agg cs) v):∃vs:Z Va,v= .agg vs.toArray/\bo w M G cs vs:=by cases h with|agg _ vs b h=>exact⟨vs,rfl,b,h⟩
def bp.VB{f:FI}{cs:Z PV}(h:bp w M G (.kP f cs) v):∃vs:Z Va,v= .func (.func f) vs.toArray #[]/\bo w M G cs vs:=by cases h with|kP _ _ vs b h=>exact⟨vs,rfl,b,h⟩
def bp.za{f:FI}{cs:Z PV}(h:bp w M G (.bJ f cs) v):∃vs:Z Va,v= .func (.func f) #[] vs.toArray/\bo w M G cs vs:=by cases h with|bJ _ _ vs b h=>exact⟨vs,rfl,b,h⟩
def bp.NI{cs:Z PV}(h:bp w M G (.ref cs) v):∃(ad:Addr) (vs:Z Va),v= .pointer (some ad)/\bo w M dz cs vs/\∀(i:Nat) (u:Va),vs[i]?=some u->w.cell? (ad.add i)=some u/\¬M ad.block:=by cases h with|ref _ ad vs b c h=>exact⟨ad,vs,rfl,⟨b,h⟩,c⟩
def bp.rQ{id aw off:Nat}(h:bp w M G (.ptr id aw off) v)(hv:G.V id=aw):id<G.N/\v= .pointer ((cq (G.L id)).map λb=>⟨b,off,none⟩):=by cases h with|ptr _ _ _ ad c d h=>exact⟨c,by rw[h hv.symm]⟩
def bp.Ry{id aw k i off:Nat}(h:bp w M G (.fK id aw k i off) v)(hv:G.V id=aw):id<G.N/\v= .pointer ((cq (G.L id)).map λb=>⟨b,i*k+off,none⟩):=by cases h with|fK _ _ _ _ _ ad c d h=>exact⟨c,by rw[h hv.symm]⟩
def bp.CJ{id aw k lo n:Nat}(h:bp w M G (.view id aw k lo n) v)(hv:G.V id=aw):id<G.N/\∃a c,v= .slice a n c/\aaa (G.L id) k lo n a c:=by cases h with|view _ _ _ _ _ ad c b d h=>exact⟨b,ad,c,rfl,h hv.symm⟩
def bp.pR{id aw:Nat}(h:bp w M G (.own id aw) v)(hv:G.V id=aw):id<G.N/\v=G.L id:=by cases h with|own _ _ ad n c b d h=>exact⟨b,h hv.symm⟩
def bp.Ix{es:Z (Z PV)}(h:bp w M G (.sl es) v):(v= .slice none 0 0/\es=[])\/∃(ad:Addr) (c k:Nat) (vs:Z Va),v= .slice (some ad) es.length c/\(∀e∈es,e.length=k)/\bo w M dz es.flatten vs/\
  (∀(i:Nat) (u:Va),vs[i]?=some u->w.cell? (ad.add i)=some u/\¬M ad.block)/\es.length<=c/\c<=maxLen:=by
 cases h with
 |sl _ ad c k vs hk d f h b hm=>exact .inr ⟨ad,c,k,vs,rfl,hk,⟨d,h⟩,f,b,hm⟩
 |slnil=>exact .inl ⟨rfl,rfl⟩
end
def St.fM(S:St)(wr:Y (Nat×gU)):St:={S with H:=match wr with|some (id,o)=>bZ S.H id o|none=>S.H}
def Good(P:Pr)(E:En)(S:St)(a:Act)(w:Wo)(o:Oper)(x:PV)(wr:Y (Nat×gU)):Prop:=
 ∃b w' c v,(execOp a.eval o).run P w= .ok b w'/\(b= .value v\/(b= .skip/\v=undef))/\bp w' (bn E (S.fM wr) c) ((S.fM wr).gh c) x v/\Rel E (S.fM wr) a w' c
def Good.pure{o:Oper}{x:PV}{v:Va}(h:Rel E S a w L)(c:(execOp a.eval o).run P w= .ok (.value v) w)(b:bp w (bn E S L) (S.gh L) x v):Good P E S a w o x none:=
 ⟨_,w,L,v,c,.inl rfl,b,h⟩
def Rel.acM(h:Rel E S a w L){d:Y Nat}{x:PV}{v:Va}(c:∀t,d=some t->E.can t)(b:bp w (bn E S L) (S.gh L) x v):Rel E (S.cY d x none) (a.put d v) w L:=by
 cases d with
 |none=>exact h
 |some t=>exact h.put (c t rfl) b
def Ob(o:Oper):Prop:=∀c,o.op≠ .defer c
def Good.wp{o:Oper}{x:PV}{wr:Y (Nat×gU)}(h:Good P E S a w o x wr)(b:Ob o)(g:∀t,o.dst=some t->E.can t){K:Act->Wo->Prop}{Q:Exit->Act->Wo->Prop}
  (i:∀a' w' c,Rel E (S.cY o.dst x wr) a' w' c->K a' w'):o.wpIn (WF E.rd) 0 P a w K Q:=by
 let⟨k,w',c,v,e,f,d,j⟩:=h
 have:=i _ _ _ (show Rel E (S.cY o.dst x wr) (a.put o.dst v) w' c from j.acM g d)
 unfold Oper.wpIn;rw[qbd _ _ _ b,e];rcases f with rfl|⟨rfl,rfl⟩<;>exact⟨λ_ _=>trivial,this⟩
def aaE{t:TI}{ad:Addr}{v:Va}(b:xm P t=some none)(h:w.cell? ad=some v):(loadVar t ad).run P w= .ok v w:=by
 unfold xm at b;split at b
 .simp at b
 .simp at b
 .rename_i d _ e c
  have:(isAgg t).run P w= .ok false w:=by unfold isAgg;rw[QY,QP c w];cases d<;>simp_all
  simp[loadVar,QY,this,qac];simp[load,Sem.run,h]
 .cases b
def aaF{t:TI}{ad:Addr}{n:Nat}{vs:Z Va}(b:xm P t=some (some n))(e:vs.length=n)(h:∀(i:Nat) (v:Va),vs[i]?=some v->w.cell? (ad.add i)=some v):
  (loadVar t ad).run P w= .ok (.agg vs.toArray) w:=by
 have hi:∃i,P.info? t=some i/\i.size=n:=by
  unfold xm at b;split at b
  .simpa using b
  .simpa using b
  .simp at b
  .cases b
 let⟨i,hi,hs⟩:=hi
 have:(isAgg t).run P w= .ok true w:=by
  unfold xm at b;unfold isAgg;split at b
  .rename_i d;rw[QY,QP d w];simp
  .rename_i d;rw[QY,QP d w];simp
  .simp at b
  .cases b
 have c:=run_loadCells_list (P:=P) w ad vs h;rw[e]at c;simp[loadVar,QY,this,qac,sizeOf,typeInfo];simp[program,Sem.run,hi,hs,c]
def NS{M:Nat->Prop}{G:Gh}{t:TI}{n:Y Nat}{ad:Addr}{cs:Z PV}{vs:Z Va}{x:PV}(d:xm P t=some n)(c:bo w M G cs vs)
  (e:∀(i:Nat) (v:Va),vs[i]?=some v->w.cell? (ad.add i)=some v) (b:xy n cs=some x):∃v,(loadVar t ad).run P w= .ok v w/\bp w M G x v:=by
 cases n with
 |none=>
  cases cs with
  |nil=>simp[xy]at b
  |cons y f=>simp[xy,Qk]at b;subst b;obtain⟨v,us,rfl,h1,_⟩:=c.cons_inv;exact⟨v,aaE d (by simpa[Addr.add]using e 0 v t_),h1⟩
 |some n=>
  simp only[xy]at b;split at b
  .injection b with b
   subst b;rename_i g;refine⟨.agg (vs.take n).toArray,aaF d (by simp[c.1];omega) (λi v hv=> ?_),?_⟩
   .grind
   .have:=c.take n;exact .agg _ _ this.1 this.2
  .cases b
def Rel.tV(h:Rel E S a w L){id:Nat}{cs:Z PV}(d:id<S.N)(e:(S.H id).c= .box cs):
  ∃(b:Nat) (c:Array Va) (T:TI),L id= .pointer (some ⟨b,0,none⟩)/\w.heap[b]?=some (.cells c T (0,0))/\bo w (bn E S L) (S.gh L) cs c.toList/\(E.rb=some b\/E.w0.heap.size<=b):=by
 have:=h.obj id d;rw[e]at this
 let⟨b,c,T,h1,i,g,f⟩:=this
 exact⟨b,c,T,h1,i,f,g⟩
theorem tU{b:Nat}{c:Array Va}{T:TI}(h:w.heap[b]?=some (.cells c T (0,0))){i:Nat}{v:Va}(hv:c.toList[i]?=some v):w.cell? ⟨b,i,none⟩=some v:=by simp[World.cell?,h];simpa using hv
def Rel.mR(h:Rel E S a w L){id:Nat}{e k:Nat}{es:Z (Z PV)}(b:id<S.N)(c:(S.H id).c= .row e k es):
  ∃(vs:Z Va),w.ownsRow (gE E (L id)) e k (L id) es.length vs/\(∀x∈es,x.length=k)/\bo w (bn E S L) (S.gh L) es.flatten vs:=by
 have:=h.obj id b;rw[c]at this;exact this
theorem Cd{α:Type}:∀(es:Z (Z α)) (k i:Nat) (e:Z α),(∀x∈es,x.length=k)->es[i]?=some e->∀j,j<k->es.flatten[i*k+j]?=e[j]?
 |[],_,_,_,_,h,_,_=>by simp at h
 |x::xs,k,i,e,hk,h,j,c=>by
  have d:x.length=k:=hk x t_
  cases i with
  |zero=>simp at h;subst h;simp[List.flatten_cons,Nat.zero_mul,qau];rw[List.getElem?_append_left O]
  |succ i=>
   simp[List.getElem?_cons_succ]at h;have:=Cd xs k i e (λy b=>hk y (by simp[b])) h j c
   simp[List.flatten_cons];have f:(i+1)*k=i*k+k:=by rw[Q1];omega
   rw[List.getElem?_append_right O,<-this];congr 1;omega
theorem pa{α:Type}(es:Z (Z α))(k:Nat)(c:∀x∈es,x.length=k):es.flatten.length=es.length*k:=by
 induction es with
 |nil=>simp
 |cons x xs b=>grind
end
end
section
open Go.RowKit
section
variable{P:Pr}{E:En}{S:St}{a:Act}{w:Wo}{L:Nat->Va}{o:Oper}{x:PV}{wr:Y (Nat×gU)}{Γ:sF}{nid:Nat}
theorem cd{p q:PV×Y (Nat×gU)}(h:some p=some q):p.1=q.1/\p.2=q.2:=by cases h;exact⟨rfl,rfl⟩
def ahP(h:Rel E S a w L){y:Od}{c:bD}(b:o.op= .move y\/o.op= .assign y)(d:bK y=some c):Good P E S a w o (c.val S) none:=by refine Good.pure h ?_ (h.ke d);rcases b with b|b<;>simp[execOp,b]
def alj(h:Rel E S a w L){c y z:Od}{i f d:bD}(g:o.op= .pick c y z)(l:bK c=some i)(k:bK y=some f)(j:bK z=some d)
  (b:exec Γ nid S (.pick i f d)=some (x,wr)):Good P E S a w o x wr:=by
 have rc:=h.ke l;simp[exec]at b;split at b
 .rename_i e;obtain⟨rfl,rfl⟩:=cd b;rw[e]at rc;have hv:=rc.qC;exact Good.pure (v:=a.eval y) h (by simp[execOp,g,asBool,hv]) (h.ke k)
 .rename_i e;obtain⟨rfl,rfl⟩:=cd b;rw[e]at rc;have hv:=rc.qC;exact Good.pure (v:=a.eval z) h (by simp[execOp,g,asBool,hv]) (h.ke j)
 .cases b
def amI(h:Rel E S a w L){y:Od}{d:bD}{t:TI}(g:o.op= .unOp .not t y)(f:bK y=some d)(c:exec Γ nid S (.not d)=some (x,wr)):Good P E S a w o x wr:=by
 have r:=h.ke f;simp[exec]at c;split at c
 .rename_i b e;obtain⟨rfl,rfl⟩:=cd c;rw[e]at r;have hv:=r.qC;exact Good.pure (v:= .bool !b) h (by simp[execOp,g,Op.unary,hv]) (.bool _)
 .cases c
def alo(h:Rel E S a w L){y:Od}{c:bD}{s t:TI}{k d:IntKind}(i:o.op= .convert s t y)(hs:P.underlying s=some (.int d))(g:P.underlying t=some (.int k))(f:bK y=some c)
  (b:exec Γ nid S (.conv k c)=some (x,wr)):Good P E S a w o x wr:=by
 have r:=h.ke f;simp[exec]at b;split at b
 .rename_i k1 n e;obtain⟨rfl,rfl⟩:=cd b;rw[e]at r;have hv:=r.jT;exact Good.pure (v:= .int k (k.wrap n)) h (by simp[execOp,i,convert,QP hs,QP g,Conv.intToInt,hv]) (.int _ _)
 .cases b
def aln(h:Rel E S a w L){y:Od}{c:bD}{i:Nat}(k:o.op= .extract y i)(f:bK y=some c)(b:exec Γ nid S (.Ic i c)=some (x,wr)):Good P E S a w o x wr:=by
 have r:=h.ke f;simp[exec]at b;split at b
 .rename_i cs e;simp only[Qq]at b;obtain⟨z,d,b⟩:=b;injection b with h1 l
  subst h1 l;rw[e]at r
  let⟨vs,hv,j⟩:=r.Is
  let⟨u,hu,g⟩:=j.get d
  exact Good.pure (v:=u) h (by simp[execOp,k,Instr.extract,hv,hu]) g
 .cases b
def amK(h:Rel E S a w L){f:FI}{first b:Array Od}{cs:Z bD}(d:o.op= .makeFunc (.func f) first b)(j:first.size=0)(g:b.toList.mapM bK=some cs)
  (c:exec Γ nid S (.O7 f cs)=some (x,wr)):Good P E S a w o x wr:=by
 simp only[exec]at c;obtain⟨rfl,rfl⟩:=cd c;have r:=h.dZ g;have i:first=#[]:=qa2 j
 subst i;refine Good.pure (v:= .func (.func f) #[] (b.toList.map a.eval).toArray) h ?_ (.bJ f _ _ r.1 r.2);have e:b.map a.eval=(b.toList.map a.eval).toArray:=by rw[<-qa3,qaq]
 simp[execOp,d,Instr.makeFunc,e]
def amL(h:Rel E S a w L){f:FI}{first b:Array Od}{cs:Z bD}(d:o.op= .makeFunc (.func f) first b)(j:b.size=0)(g:first.toList.mapM bK=some cs)
  (c:exec Γ nid S (.O8 f cs)=some (x,wr)):Good P E S a w o x wr:=by
 simp only[exec]at c;obtain⟨rfl,rfl⟩:=cd c;have r:=h.dZ g;have i:b=#[]:=qa2 j;subst i;refine Good.pure (v:= .func (.func f) (first.toList.map a.eval).toArray #[]) h ?_ (.kP f _ _ r.1 r.2)
 have e:first.map a.eval=(first.toList.map a.eval).toArray:=by rw[<-qa3,qaq]
 simp[execOp,d,Instr.makeFunc,e]
def toList_eq_iff(a b:C):(a.toList==b.toList)=decide (a=b):=by
 have d:∀c:C,c.toList=c.data.toList:=λc=>qbr c
 rw[d,d,qaH];simp only[beq_iff_eq,Qw];constructor
 .intro h;have:a.data=b.data:=Array.toList_inj.1 h;cases a;cases b;simp_all
 .rintro rfl;rfl
def aco{M:Nat->Prop}{G:Gh}{op:BinOp}{t:TI}{k:IntKind}{p q:Int}{r:PV}(b:Ni op k p q=some r)(d:op≠ .shl)(c:op≠ .shr):
  ∃v,(binOp op t (.int k p) (.int k q)).run P w= .ok v w/\bp w M G r v:=by
 cases op<;>simp only[Ni]at b
 case shl=>exact absurd rfl d
 case shr=>exact absurd rfl c
 case quo=>
  split at b
  .cases b
  .rename_i e;cases b;exact⟨.int k (k.wrap (p.tdiv q)),by simp[binOp,Op.intDiv,e],.int _ _⟩
 case rem=>
  split at b
  .cases b
  .rename_i e;cases b;exact⟨.int k (p.tmod q),by simp[binOp,Op.intDiv,e],.int _ _⟩
 case andNot=>cases b;exact⟨.int k (k.wrap ((BitVec.ofInt k.bits p&&& ~~~ BitVec.ofInt k.bits q).toNat)),by simp[binOp,ne_eq,qaT,Qx,Op.intBits,qaj],.int _ _⟩
 case and=>injection b with b;subst b;exact⟨_,by simp only[binOp,ne_eq,qaT,Qx,Op.intBits];rfl,.int _ _⟩
 case or=>injection b with b;subst b;exact⟨_,by simp only[binOp,ne_eq,qaT,Qx,Op.intBits];rfl,.int _ _⟩
 case xor=>injection b with b;subst b;exact⟨_,by simp only[binOp,ne_eq,qaT,Qx,Op.intBits];rfl,.int _ _⟩
 all_goals (injection b with b;subst b)
 all_goals exact⟨_,by simp[binOp,ne_eq,qaT,Qx,Op.intArith,Op.intCmp];rfl,by first|exact .int _ _|exact .bool _⟩
def amP(h:Rel E S a w L){y z:Od}{D B:bD}{op:BinOp}{t t2:TI}(f:o.op= .binOp op t y z t2)(H:bK y=some D)(F:bK z=some B)
  (j:exec Γ nid S (.bin op D B)=some (x,wr)):Good P E S a w o x wr:=by
 have i:=h.ke H;have g:=h.ke F;simp only[exec,Qq]at j;obtain⟨r,b,j⟩:=j;injection j with h1 K
 subst h1 K;unfold N9 at b;split at b
 .rename_i k p k' q A u;rw[A]at i;rw[u]at g;have hv:=i.jT;have c:=g.jT;have d:∀op,(eqGuard op t y z (.int k p) (.int k' q)).run P w= .ok () w:=by intro op;cases op<;>simp[eqGuard]
  split at b
  .split at b
   .cases b
   .rename_i s;injection b with b
    subst b;exact Good.pure (v:=_) h (by simp[execOp,f,hv,c,d,binOp,Op.shift,s]) (.int _ _)
  .split at b
   .cases b
   .rename_i s;injection b with b
    subst b;exact Good.pure (v:=_) h (by simp[execOp,f,hv,c,d,binOp,Op.shift,s]) (.int _ _)
  .rename_i m l;split at b
   .rename_i J;subst J
    let⟨v,e,I⟩:=aco (P:=P) (w:=w) (t:=t) (M:=bn E S L) (G:=S.gh L) b m l
    exact Good.pure (v:=v) h (by simp[execOp,f,hv,c,d,e]) I
   .cases b
 .rename_i p q A u;rw[A]at i;rw[u]at g;have hv:=i.CL;have c:=g.CL;have d:∀op,(eqGuard op t y z (.string p) (.string q)).run P w= .ok () w:=by intro op;cases op<;>simp[eqGuard]
  cases op<;>simp[Ud]at b<;>
   first
   |(cases b;exact Good.pure (v:=_) h (by first|(simp[execOp,f,hv,c,QY,d,binOp,Op.stringOp,toList_eq_iff,qaj,qac];done)|(simp[execOp,f,hv,c,QY,d,binOp,Op.stringOp,toList_eq_iff,qaj,qac];rfl)) (.bool _))
   |cases b
 .cases b
end
end
section
open Go.RowKit
section
variable{P:Pr}{E:En}{S:St}{a:Act}{w:Wo}{L:Nat->Va}{o:Oper}{x:PV}{wr:Y (Nat×gU)}{Γ:sF}{nid:Nat}
def run_load{t:TI}{y:Od}{ad:Addr}{v:Va}(c:o.op= .load t y)(hv:a.eval y= .pointer (some ad))(b:(loadVar t ad).run P w= .ok v w):(execOp a.eval o).run P w= .ok (.value v) w:=by simp[execOp,c,hv,Instr.loadAt,Instr.sureAddr,b]
theorem add_mid(b o j:Nat):(⟨b,o,none⟩:Addr).add j=⟨b,o+j,none⟩:=Addr.add_mid b o j
theorem iM{α:Type}{l:Z α}{n i:Nat}{v:α}(h:(l.drop n)[i]?=some v):l[n+i]?=some v:=by rwa [List.getElem?_drop]at h
def alk(h:Rel E S a w L){y:Od}{X:bD}{t:TI}{n:Y Nat}(K:o.op= .load t y)(J:xm P t=some n)(hy:bK y=some X)(c:exec Γ nid S (.load n X)=some (x,wr)):Good P E S a w o x wr:=by
 have r:=h.ke hy;simp[exec]at c;split at c
 .rename_i id aw off e;rw[e]at r;split at c
  .rename_i l;split at c
   .rename_i cs H;simp only[Qq]at c;obtain⟨z,q,c⟩:=c;injection c with f p
    subst f p
    let⟨V,hv⟩:=r.rQ (show(S.gh L).V id=aw from l)
    let⟨b,W,T,I,R,D,_⟩:=h.tV V H
    rw[show(S.gh L).L id=L id from rfl,I]at hv
    simp[cq,Qo]at hv
    let⟨v,d,s⟩:=NS (P:=P) (ad:=⟨b,off,none⟩) J (D.drop off) (λi u A=>by rw[add_mid];exact tU R (iM A)) q
    exact Good.pure h (run_load K hv d) s
   .cases c
  .cases c
 .rename_i id aw k i off e;rw[e]at r;split at c
  .rename_i l;split at c
   .rename_i e0 k' es H;split at c
    .rename_i N;subst N;split at c
     .rename_i el U;simp only[Qq]at c;obtain⟨z,q,c⟩:=c;injection c with f p
      subst f p
      let⟨V,hv⟩:=r.Ry (show(S.gh L).V id=aw from l)
      let⟨vs,F,N,D⟩:=h.mR V H
      rw[show(S.gh L).L id=L id from rfl]at hv
      have hlen:el.length=k:=N el (QL U)
      have B:bo w (bn E S L) (S.gh L) el ((vs.drop (i*k)).take k):=by
       have f:=(D.drop (i*k)).take k
       have p:(es.flatten.drop (i*k)).take k=el:=by
        apply List.ext_getElem?
        grind [Cd]
       rw[p]at f;exact f
      rcases F.2 with⟨I,h0⟩|⟨g,cap,W,I,hb1,R,_,_,_,m⟩
      .grind
      .rw[I]at hv;simp[cq,Qo]at hv
       let⟨v,d,s⟩:=NS (P:=P) (ad:=⟨g,i*k+off,none⟩) J (B.drop off) (λj u A=>by
        rw[add_mid];refine tU R ?_;have f:=iM A;rw[qaR]at f;split at f
        .rw[List.getElem?_drop,<-m,qaR]at f;split at f
         .rw[<-f];congr 1;omega
         .cases f
        .cases f) q
       exact Good.pure h (run_load K hv d) s
     .cases c
    .cases c
   .cases c
  .cases c
 .rename_i cs e;rw[e]at r;simp only[Qq]at c;obtain⟨z,q,c⟩:=c;injection c with f p
  subst f p
  let⟨ad,vs,hv,D,H⟩:=r.NI
  let⟨v,d,s⟩:=NS (P:=P) (ad:=ad) J D (λi u A=>(H i u A).1) q
  exact Good.pure h (run_load K hv d) (s.mono (dp.of λ_ hm=>hm) (dz.le _))
 .cases c
theorem add_add(ad:Addr)(i j:Nat):(ad.add i).add j=ad.add (i+j):=by
 unfold Addr.add
 grind
def Yb{M:Nat->Prop}{G:Gh}{cs:Z PV}{ad:Addr}{vs:Z Va}(d:bo w M dz cs vs)(e:∀(i:Nat) (u:Va),vs[i]?=some u->w.cell? (ad.add i)=some u/\¬M ad.block)(n:Nat):
  bp w M G (.ref (cs.drop n)) (.pointer (some (ad.add n))):=by
 have b:=d.drop n;exact .ref _ _ _ b.1 (λi u c=>by rw[add_add,block_add];exact e _ u (iM c)) b.2
def UF{b:Field}{i:TypeInfo}(hi:P.info? b.type=some i)(c:i.size≠0)(ad:Addr):(fieldPlace ad b).run P w= .ok (ad.add b.offset) w:=by simp[fieldPlace,sizeOf,typeInfo,hi,c]
def LX{s:TI}{y:Od}{f:Nat}{b:Array Field}{c:Field}{i:TypeInfo}{ad:Addr}(d:o.op= .fieldAddr s y f)(hs:P.underlying s=some (.struct b))(e:b[f]?=some c)
  (hi:P.info? c.type=some i) (g:i.size≠0) (hv:a.eval y= .pointer (some ad)):(execOp a.eval o).run P w= .ok (.value (.pointer (some (ad.add c.offset)))) w:=by
 simp[execOp,d,Instr.fieldAt,QP hs,e,hv,Instr.sureAddr,UF hi g]
def bp.Wa{M:Nat->Prop}{G:Gh}{id aw off:Nat}{ad:Addr}(n:Nat)(h:bp w M G (.ptr id aw off) (.pointer (some ad))):bp w M G (.ptr id aw (off+n)) (.pointer (some (ad.add n))):=by
 cases h with
 |ptr _ _ _ _ f d h=>
  refine .ptr _ _ _ _ f d (λe=> ?_)
  have:=h e
  cases c:cq (G.L id)with
  |none=>rw[c]at this;cases this
  |some b=>grind [add_mid]
def bp.adn{M:Nat->Prop}{G:Gh}{id aw k i off:Nat}{ad:Addr}(n:Nat)(h:bp w M G (.fK id aw k i off) (.pointer (some ad))):bp w M G (.fK id aw k i (off+n)) (.pointer (some (ad.add n))):=by
 cases h with
 |fK _ _ _ _ _ _ f d h=>
  refine .fK _ _ _ _ _ _ f d (λe=> ?_)
  have:=h e
  cases c:cq (G.L id)with
  |none=>rw[c]at this;cases this
  |some b=>grind [add_mid]
def Rel.xT(h:Rel E S a w L){id aw off:Nat}{v:Va}{cs:Z PV}(r:bp w (bn E S L) (S.gh L) (.ptr id aw off) v)(c:(S.H id).aw=aw)(e:(S.H id).c= .box cs):
  ∃b,v= .pointer (some ⟨b,off,none⟩)/\L id= .pointer (some ⟨b,0,none⟩):=by
 let⟨f,hv⟩:=r.rQ (show(S.gh L).V id=aw from c)
 let⟨b,g,T,d,j,i,_⟩:=h.tV f e
 rw[show(S.gh L).L id=L id from rfl,d]at hv
 exact⟨b,hv,d⟩
def Rel.afb(h:Rel E S a w L){id aw k i off:Nat}{v:Va}{m k':Nat}{es:Z (Z PV)}(r:bp w (bn E S L) (S.gh L) (.fK id aw k i off) v)(c:(S.H id).aw=aw)(f:(S.H id).c= .row m k' es)(hi:i<es.length):
  ∃b n cap,v= .pointer (some ⟨b,i*k+off,none⟩)/\L id= .slice (some ⟨b,0,none⟩) n cap:=by
 let⟨l,hv⟩:=r.Ry (show(S.gh L).V id=aw from c)
 let⟨vs,d,hk,q⟩:=h.mR l f
 rcases d.2 with⟨e,t⟩|⟨g,cap,p,e,j,s,_⟩
 .omega
 .rw[show(S.gh L).L id=L id from rfl,e]at hv
  exact⟨g,_,cap,hv,e⟩
def ajo(h:Rel E S a w L){s:TI}{y:Od}{u:bD}{f:Nat}{d:Array Field}{t:Field}{i:TypeInfo}(m:o.op= .fieldAddr s y f)(hs:P.underlying s=some (.struct d))(p:d[f]?=some t)
  (hi:P.info? t.type=some i) (q:i.size≠0) (z:bK y=some u) (c:exec Γ nid S (.Dv t.offset u)=some (x,wr)):Good P E S a w o x wr:=by
 have r:=h.ke z;simp[exec]at c;split at c
 .rename_i id aw off e;rw[e]at r;split at c
  .rename_i g;split at c
   .rename_i cs l;obtain⟨rfl,rfl⟩:=cd c
    let⟨b,hv,_⟩:=h.xT r g l
    rw[hv]at r;exact Good.pure h (LX m hs p hi q hv) (r.Wa _)
   .cases c
  .cases c
 .rename_i id aw k j off e;rw[e]at r;split at c
  .rename_i g;split at c
   .rename_i l;split at c
    .rename_i B;obtain⟨rfl,rfl⟩:=cd c
     let⟨b,n,cap,hv,_⟩:=h.afb r g l B
     rw[hv]at r;exact Good.pure h (LX m hs p hi q hv) (r.adn _)
    .cases c
   .cases c
  .cases c
 .rename_i cs e;rw[e]at r;obtain⟨rfl,rfl⟩:=cd c
  let⟨ad,vs,hv,A,l⟩:=r.NI
  exact Good.pure h (LX m hs p hi q hv) (Yb A l _)
 .cases c
def ajm(h:Rel E S a w L){y:Od}{i:bD}(g:o.op= .nilCheck y)(k:bK y=some i)(c:exec Γ nid S (.Dn i)=some (x,wr)):Good P E S a w o x wr:=by
 have r:=h.ke k;simp[exec]at c;split at c
 .rename_i id aw off e;rw[e]at r;split at c
  .rename_i d;split at c
   .rename_i cs j;obtain⟨rfl,rfl⟩:=cd c
    let⟨b,hv,_⟩:=h.xT r d j
    exact Good.pure (v:=a.eval y) h (by simp[execOp,g,hv]) r
   .cases c
  .cases c
 .rename_i cs e;rw[e]at r;obtain⟨rfl,rfl⟩:=cd c
  let⟨ad,vs,hv,l,j⟩:=r.NI
  exact Good.pure (v:=a.eval y) h (by simp[execOp,g,hv]) r
 .rename_i f cs e;rw[e]at r;obtain⟨rfl,rfl⟩:=cd c
  let⟨vs,hv,l⟩:=r.za
  exact Good.pure (v:=a.eval y) h (by simp[execOp,g,hv]) r
 .cases c
def Rel.Nx(h:Rel E S a w L){id k lo n:Nat}{ad:Y Addr}{c:Nat}{j k':Nat}{es:Z (Z PV)}(f:id<S.N)(e:(S.H id).c= .row j k' es)(d:aaa (L id) k lo n ad c):lo+n<=es.length:=by
 let⟨a0,m0,c0,p,h1,_⟩:=d
 let⟨vs,b,hk,m⟩:=h.mR f e
 rcases b.2 with⟨i,q⟩|⟨g,cap,l,i,_⟩
 .grind
 .grind
def LW{t e:TI}{y z:Od}{ad:Addr}{n c:Nat}{i:TypeInfo}{k:IntKind}{j:Int}(f:o.op= .indexAddr t y z)(d:P.underlying t=some (.slice e))(hi:P.info? e=some i)
  (hv:a.eval y= .slice (some ad) n c) (b:a.eval z= .int k j) (h:0<=j) (g:j<n):(execOp a.eval o).run P w= .ok (.value (.pointer (some (ad.add (j.toNat*i.size))))) w:=by
 simp[execOp,f,Instr.indexAt,QP d,hv,b,asIntOf,sizeOf,typeInfo,hi,h,g]
def ajn(h:Rel E S a w L){t e:TI}{y z:Od}{y' z':bD}{i:TypeInfo}(T:o.op= .indexAddr t y z)(N:P.underlying t=some (.slice e))(hi:P.info? e=some i)(hy:bK y=some y')(hz:bK z=some z')
  (b:exec Γ nid S (.wu i.size y' z')=some (x,wr)):Good P E S a w o x wr:=by
 have r:=h.ke hy;have rz:=h.ke hz;simp only[exec]at b;split at b
 .rename_i kk j ej;rw[ej]at rz;have W:=rz.jT;split at b
  .rename_i es F;rw[F]at r;split at b
   .rename_i l;split at b
    .rename_i el A;split at b
     .rename_i s;obtain⟨rfl,rfl⟩:=cd b;rcases r.Ix with⟨_,h0⟩|⟨ad,c,k,vs,hv,hk,R,I,_,_⟩
      .subst h0;simp at A
      .have V:k=i.size:=(hk el (QL A)).symm.trans s;subst V;refine Good.pure h (LW T N hi hv W l.1 l.2) ?_
       have h2:(es.flatten.drop (j.toNat*i.size)).take i.size=el:=by
        apply List.ext_getElem?
        grind [Cd]
       have K:=(R.drop (j.toNat*i.size)).take i.size;rw[h2]at K;refine .ref _ _ _ K.1 (λq u hu=> ?_) K.2
       grind [add_add,block_add,iM]
     .cases b
    .cases b
   .cases b
  .rename_i id aw F;rw[F]at r;split at b
   .rename_i d;split at b
    .rename_i e0 k' es I;split at b
     .rename_i l;obtain⟨rfl,rfl⟩:=cd b
      let⟨D,hv⟩:=r.pR (show(S.gh L).V id=aw from d)
      let⟨vs,f,hk,R⟩:=h.mR D I
      rcases f.2 with⟨p,h0⟩|⟨g,cap,cur,p,B,hh,_⟩
      .omega
      .rw[show(S.gh L).L id=L id from rfl,p]at hv
       refine Good.pure h (LW T N hi hv W l.2.1 l.2.2) ?_;refine .fK _ _ _ _ _ _ D (qaU d.symm) (λ_=> ?_)
       rw[show(S.gh L).L id=L id from rfl,p]
       simp[cq,add_mid]
     .cases b
    .cases b
   .cases b
  .rename_i id aw k0 lo m F;rw[F]at r;split at b
   .rename_i d;split at b
    .rename_i e0 k' es I;split at b
     .rename_i l
      let⟨hk1,U,X,B,hb2⟩:=l
      subst U;obtain⟨rfl,rfl⟩:=cd b
      let⟨D,ad,c,hv,a0,m0,c0,H,K,h2,h3,J⟩:=r.CJ (show(S.gh L).V id=aw from d)
      let⟨vs,f,hk,R⟩:=h.mR D I
      have H:L id= .slice a0 m0 c0:=H;rcases f.2 with⟨p,h0⟩|⟨g,cap,cur,p,hb1',hh,_⟩
      .omega
      .rw[p]at H;injection H with e1 e2 e3
       subst e1 e2 e3;rcases J with J|J
       .omega
       .subst J;refine Good.pure h (LW T N hi hv W X B) ?_;refine .fK _ _ _ _ _ _ D (qaU d.symm) (λ_=> ?_)
        grind [cq,add_mid]
     .cases b
    .cases b
   .cases b
  .cases b
 .cases b
def V1{t e:TI}{y z:Od}{ad:Addr}{n:Nat}{i:TypeInfo}{k:IntKind}{j:Int}(d:o.op= .indexAddr t y z)(c:P.underlying t=some (.array n e))(hi:P.info? e=some i)
  (hv:a.eval y= .pointer (some ad)) (b:a.eval z= .int k j) (g:0<=j) (f:j<n):(execOp a.eval o).run P w= .ok (.value (.pointer (some (ad.add (j.toNat*i.size))))) w:=by
 simp[execOp,d,Instr.indexAt,Instr.sureAddr,QP c,hv,b,asIntOf,sizeOf,typeInfo,hi,g,f]
def ajr(h:Rel E S a w L){t e:TI}{n:Nat}{y z:Od}{l k:bD}{i:TypeInfo}(q:o.op= .indexAddr t y z)(p:P.underlying t=some (.array n e))(hi:P.info? e=some i)(A:bK y=some l)(u:bK z=some k)
  (c:exec Γ nid S (.DB i.size n l k)=some (x,wr)):Good P E S a w o x wr:=by
 have r:=h.ke A;have m:=h.ke u;simp[exec]at c;split at c
 .rename_i F j D;rw[D]at m;have s:=m.jT;split at c
  .rename_i f;split at c
   .rename_i id aw off e;rw[e]at r;split at c
    .rename_i d;split at c
     .rename_i cs g;obtain⟨rfl,rfl⟩:=cd c
      let⟨b,hv,_⟩:=h.xT r d g
      rw[hv]at r;exact Good.pure h (V1 q p hi hv s f.1 f.2) (r.Wa _)
     .cases c
    .cases c
   .rename_i cs e;rw[e]at r;obtain⟨rfl,rfl⟩:=cd c
    let⟨ad,vs,hv,B,g⟩:=r.NI
    exact Good.pure h (V1 q p hi hv s f.1 f.2) (Yb B g _)
   .cases c
  .cases c
 .cases c
def abf{M:Nat->Prop}{G:Gh}{t:TI}{n:Y Nat}{cs':Z PV}{vs:Z Va}{off:Nat}{x:PV}(b:xm P t=some n)(e:bo w M G cs' (vs.drop off))(c:xy n cs'=some x):∃v,(part t vs.toArray off).run P w= .ok v w/\bp w M G x v:=by
 cases n with
 |none=>
  cases g:cs' with
  |nil=>rw[g]at c;simp[xy]at c
  |cons y p=>
   rw[g]at c e;simp[xy,Qk]at c;subst c
   let⟨v,us,j,h1,_⟩:=e.cons_inv
   refine⟨v,?_,h1⟩
   have hv:vs[off]?=some v:=by
    have:(vs.drop off)[0]?=some v:=by rw[j];rfl
    simpa[List.getElem?_drop]using this
   have f:(isAgg t).run P w= .ok false w:=by
    unfold xm at b;split at b
    .simp at b
    .simp at b
    .rename_i d _ h l;unfold isAgg;rw[QY,QP l w];cases d<;>simp_all
    .cases b
   simp[part,f,hv]
 |some m=>
  simp only[xy]at c;split at c
  .rename_i q;injection c with c
   subst c
   have hi:∃i,P.info? t=some i/\i.size=m:=by
    unfold xm at b;split at b
    .simpa using b
    .simpa using b
    .simp at b
    .cases b
   let⟨i,hi,hs⟩:=hi
   have f:(isAgg t).run P w= .ok true w:=by
    unfold xm at b;unfold isAgg;split at b
    .rename_i h;rw[QY,QP h w];simp
    .rename_i h;rw[QY,QP h w];simp
    .simp at b
    .cases b
   have k:=e.take m;refine⟨.agg ((vs.drop off).take m).toArray,?_,.agg _ _ k.1 k.2⟩;simp[part,QY,f,qac,sizeOf,typeInfo];simp[program,Sem.run,hi,hs]
  .cases c
def aiH{M:Nat->Prop}{G:Gh}{t:TI}{n:Y Nat}{cs:Z PV}{vs:Z Va}{off:Nat}{x:PV}(A:xm P t=some n)(u:bo w M G cs vs)(z:xy n ((cs.drop off).map nz)=some x):∃v,(part t vs.toArray off).run P w= .ok v w/\bp w M G x v:=by
 have m:bo w M G ((cs.drop off).map nz) (vs.drop off):=⟨by simp[u.1],λi y v r hv=>by
  rw[QG,Qq]at r;obtain⟨y0,l,rfl⟩:=r;have H:=(u.drop off).2 i y0 v l hv
  cases H with
  |eV|slnil=>exact .slnil
  |any=>exact .any _
  |undef=>exact .undef
  |int k n=>exact .int k n
  |bool b=>exact .bool b
  |iD b=>exact .iD b
  |str s=>exact .str s
  |nj=>exact .nj
  |bJ f e us d h=>exact .bJ f e us d h
  |kP f e us d h=>exact .kP f e us d h
  |agg cs us d h=>exact .agg cs us d h
  |ff cs us d h=>exact .ff cs us d h
  |ptr id aw off a j g h=>exact .ptr id aw off a j g h
  |ref cs a us d p h=>exact .ref cs a us d p h
  |sl es a c k us hk d p h B hm=>exact .sl es a c k us hk d p h B hm
  |own id aw a n c j g h=>exact .own id aw a n c j g h
  |fK id aw k i off a j g h=>exact .fK id aw k i off a j g h
  |view id aw k lo n a c j g h=>exact .view id aw k lo n a c j g h
  |og ks us b es I D q hk d h1 F=>exact .og ks us b es I D q hk d h1 F⟩
 exact abf A m z
def amN(h:Rel E S a w L){t:TI}{j:Array Field}{f:Field}{n:Y Nat}{i:Nat}{y:Od}{e:bD}(q:o.op= .field t y i)(l:P.underlying t=some (.struct j))(s:j[i]?=some f)(r:xm P f.type=some n)(k:bK y=some e)
  (c:exec Γ nid S (.Pj n f.offset e)=some (x,wr)):Good P E S a w o x wr:=by
 have g:=h.ke k;simp[exec]at c;split at c
 .rename_i cs A;rw[A]at g
  let⟨vs,hv,m⟩:=g.vr
  simp only[Qq]at c;obtain⟨b,u,c⟩:=c;injection c with h1 z
  subst h1 z
  let⟨v,p,d⟩:=abf (w:=w) r (m.drop f.offset) u
  refine Good.pure h (v:=v) ?_ d;simp[execOp,q,Instr.field,QP l,hv,s,asAgg,p]
 .cases c
def alq(h:Rel E S a w L){t e:TI}{n:Y Nat}{len:Nat}{i:TypeInfo}{y z:Od}{k g:bD}(B:o.op= .index t y z)(s:P.underlying t=some (.array len e))(D:xm P e=some n)(hi:P.info? e=some i)(r:bK y=some k)(q:bK z=some g)
  (c:exec Γ nid S (.Ik e n len i.size k g)=some (x,wr)):Good P E S a w o x wr:=by
 have m:=h.ke r;have l:=h.ke q;simp only[exec]at c;split at c
 .rename_i cs N j K J;rw[K]at m;rw[J]at l;obtain⟨vs,hv,u⟩:=m.vr;have F:=l.jT;split at c
  .rename_i p;simp only[Qq]at c;obtain⟨b,H,c⟩:=c;injection c with h1 I
   subst h1 I;obtain⟨v,A,f⟩:=aiH (w:=w) D u H;refine Good.pure h (v:=v) ?_ f;have d:(Go.sizeOf e).run P w= .ok i.size w:=by simp[sizeOf,typeInfo,program,Sem.run,hi]
   simp[execOp,B,Instr.index,QP s,hv,F,asIntOf,p.1,p.2,d,A]
  .cases c
 .cases c
def Rel.ZE(h:Rel E S a w L){y:PV}{v:Va}{es:Z (Z PV)}(r:bp w (bn E S L) (S.gh L) y v)(b:jY S y=some es):∃(ad:Y Addr) (c:Nat),v= .slice ad es.length c:=by
 unfold jY at b;split at b
 .cases b;exact⟨none,0,r.wc⟩
 .cases b;rcases r.Ix with⟨hv,m⟩|⟨ad,c,k,vs,hv,_⟩
  .subst m;exact⟨none,0,hv⟩
  .exact⟨_,_,hv⟩
 .rename_i id aw;split at b
  .rename_i d;split at b
   .rename_i f;cases b
    let⟨j,hv⟩:=r.pR (show(S.gh L).V id=aw from d)
    let⟨vs,e,hk,s⟩:=h.mR j f
    rcases e.2 with⟨l,m⟩|⟨g,cap,q,l,_⟩
    .exact⟨none,0,by rw[hv,show(S.gh L).L id=L id from rfl,l,m]⟩
    .exact⟨_,_,by rw[hv,show(S.gh L).L id=L id from rfl,l]⟩
   .cases b
  .cases b
 .rename_i id aw k lo n;split at b
  .rename_i d;split at b
   .split at b
    .rename_i u k' p f _;cases b
     let⟨j,ad,c,hv,i⟩:=r.CJ (show(S.gh L).V id=aw from d)
     have t:=h.Nx j f i
     grind
    .cases b
   .cases b
  .cases b
 .cases b
def alm(h:Rel E S a w L){y:Od}{c:bD}{t:TI}(g:o.op= .call {callee:= .builtin .len,args:=#[y],argTypes:=#[t]})(f:P.underlying t=some .string)(d:bK y=some c)
  (b:exec Γ nid S (.len true c)=some (x,wr)):Good P E S a w o x wr:=by
 have r:=h.ke d;simp[exec]at b;split at b
 .rename_i s e;rw[e]at r;obtain⟨rfl,rfl⟩:=cd b;have hv:=r.CL;exact Good.pure h (by simp[execOp,g,resolve,invoke,builtin,Builtin.len_,QP f,hv,goInt]) (.int _ _)
 .cases b
def amM(h:Rel E S a w L){y:Od}{f:bD}{t e:TI}(j:o.op= .call {callee:= .builtin .len,args:=#[y],argTypes:=#[t]})(i:P.underlying t=some (.slice e))(g:bK y=some f)
  (b:exec Γ nid S (.len false f)=some (x,wr)):Good P E S a w o x wr:=by
 have r:=h.ke g;simp only[exec,Qq]at b;obtain⟨es,d,b⟩:=b;injection b with h1 k
 subst h1 k
 let⟨ad,c,hv⟩:=h.ZE r d
 exact Good.pure h (by simp[execOp,j,resolve,invoke,builtin,Builtin.len_,QP i,hv,goInt]) (.int _ _)
def Zu(h:Rel E S a w L){y z:Od}{d c:bD}{mx:Bool}{j:Array TI}(i:o.op= .call {callee:= .builtin (if mx then .max else .min),args:=#[y,z],argTypes:=j})(m:bK y=some d)(l:bK z=some c)
  (b:exec Γ nid S (.yb mx d c)=some (x,wr)):Good P E S a w o x wr:=by
 have f:=h.ke m;have e:=h.ke l;simp[exec]at b;split at b
 .rename_i k p k' q t s;split at b
  .rename_i r;subst r;obtain⟨rfl,rfl⟩:=cd b;rw[t]at f;rw[s]at e;have hv:=f.jT;have g:=e.jT;cases mx
   .exact Good.pure h (by simp[execOp,i,resolve,invoke,builtin,Builtin.min_,Builtin.min2,hv,g]) (.int _ _)
   .exact Good.pure h (by simp[execOp,i,resolve,invoke,builtin,Builtin.max_,Builtin.max2,hv,g]) (.int _ _)
  .cases b
 .cases b
end
end
section
open Go.RowKit
section
variable{P:Pr}{E:En}{S:St}{a:Act}{w:Wo}{L:Nat->Va}{o:Oper}{x:PV}{wr:Y (Nat×gU)}{Γ:sF}{nid:Nat}
def TT(off:Nat):∀(vs:Z Va) (s:Nat) (cells:Array Va),off+s+vs.length<=cells.size->
  ((vs.zipIdx s).foldl (λcs (p:Va×Nat)=>cs.setIfInBounds (off+p.2) p.1) cells).toList=cells.toList.take (off+s)++vs++cells.toList.drop (off+s+vs.length)
 |[],s,cells,_=>t_
 |v::vs,s,cells,h=>by
  simp[List.zipIdx_cons,QZ];rw[TT off vs (s+1) _ (by simp at h ⊢;omega)]
  have:=list_seg_step cells.toList (off+s) v vs (by simp at h ⊢;omega)
  simpa[Array.toList_setIfInBounds,Nat.add_assoc]using this
def adh(off:Nat)(vs cells:Array Va)(h:off+vs.size<=cells.size):
  (vs.zipIdx.foldl (λcs (p:Va×Nat)=>cs.setIfInBounds (off+p.2) p.1) cells).toList=cells.toList.take off++vs.toList++cells.toList.drop (off+vs.size):=by
 have:=TT off vs.toList 0 cells (by simpa using h)
 simp only[qbe,qar]at this;rw[<-this,<-Array.foldl_toList];simp
theorem bo.jI{M:Nat->Prop}{G:Gh}{cs xs:Z PV}{vs us:Z Va}(h:bo w M G cs vs)(k:bo w M G xs us)(off:Nat):
  bo w M G (jI cs off xs) (vs.take off++us++vs.drop (off+us.length)):=by
 unfold TQ.jI;rw[k.1];exact((h.take off).append k).append (h.drop _)
def N2(h:Rel E S a w L)(c:Nat->Y (Nat×Nat)):∀(d:Z (Nat×Od)) (ps:Z (Nat×Nat×bD)) (cells:Array Va) (cs cs':Z PV),Ae c d=some ps->
  bo w (bn E S L) (S.gh L) cs cells.toList->vn S cs ps=some cs'->∃b,Instr.fill c cells (d.map λp=>(p.1,a.eval p.2))=some b/\bo w (bn E S L) (S.gh L) cs' b.toList
 |[],ps,cells,cs,cs',f,g,e=>by simp[Ae]at f;subst f;simp[vn,Qk]at e;subst e;exact⟨cells,rfl,g⟩
 |(i,y)::rest,ps,cells,cs,cs',f,g,e=>by
  simp only[Ae,qaa,Qu,Qm,qaf,Qk]at f;obtain⟨_,⟨⟨off,n⟩,D,t,B,rfl⟩,u,l,rfl⟩:=f;simp only[vn]at e;split at e
  .rename_i H
   let⟨h1,J,I⟩:=H
   have r:=(h.ke B).cells (λz A=>Qn.1 I z A)
   have F:(a.eval y).cells.size=n:=by have:=r.1.1;simp at this;omega
   have s:cells.size=cs.length:=by have:=g.1;simpa using this
   have q:=adh off (a.eval y).cells cells O
   have j:bo w (bn E S L) (S.gh L) (TQ.jI cs off (t.val S).cells) ((a.eval y).cells.zipIdx.foldl (λcs (p:Va×Nat)=>cs.setIfInBounds (off+p.2) p.1) cells).toList:=by rw[q];have:=g.jI r.1 off;simpa using this
   let⟨b,m,k⟩:=N2 h c rest u _ _ cs' l j e
   refine⟨b,?_,k⟩;simp only[Qy,Instr.fill,D];rw[Qg (by simp[F];omega)]
   exact m
  .cases e
theorem SV{M:Nat->Prop}{G:Gh}:∀{vs:Z Va} {cs:Z PV},vs.mapM I8=some cs->bo w M G cs vs
 |[],cs,h=>by simp at h;subst h;exact .nil
 |v::vs,cs,h=>by simp[qaa,Qu,Qm,qaf,Qk]at h;obtain⟨x,c,xs,b,rfl⟩:=h;exact .cons (Pt c) (SV b)
def FM{M:Nat->Prop}{G:Gh}{t:TI}{z:Z PV}(h:yM P t=some z):∃i v,P.info? t=some i/\i.zero=some v/\v.cells.size=i.size/\bo w M G z v.cells.toList:=by grind [yM,SV]
def abG(h:Rel E S a w L){t:TI}{b:Array (Nat×Od)}{z:Z PV}{ps:Z (Nat×Nat×bD)}(u:o.op= .build t b)(A:yM P t=some z)
  (B:(∃d c,P.underlying t=some (.struct d)/\d.toList.mapM (λf=>(P.info? f.type).map λi=>(f.offset,i.size))=some c/\Ae (λi=>c[i]?) b.toList=some ps)\/
   (∃n e i,P.underlying t=some (.array n e)/\P.info? e=some i/\Ae (λj=>some (j*i.size,i.size)) b.toList=some ps))
  (l:exec Γ nid S (.build z ps)=some (x,wr)):Good P E S a w o x wr:=by
 simp only[exec,Qq]at l;obtain⟨cs,y,l⟩:=l;injection l with h1 D
 subst h1 D
 let⟨i,v,hi,hv,hs,s⟩:=FM (P:=P) (w:=w) (M:=bn E S L) (G:=S.gh L) A
 rcases B with⟨d,c,hu,m,q⟩|⟨n,e,F,hu,p,q⟩
 .let⟨cells,k,g⟩:=N2 h _ _ _ _ _ _ q s y
  refine Good.pure (v:= .agg cells) h ?_ (by have:=g;exact(show(cells:Array Va)=cells.toList.toArray by simp)▸ .agg cs cells.toList this.1 this.2)
  have r:P.built t (b.map λ(i,x)=>(i,a.eval x)).toList=some cells:=by simp[Program.built,hi,hu,hv,m];simpa using k
  simp[execOp,u,QY,run_build w t _ cells r,qac,qaj]
 .let⟨cells,k,g⟩:=N2 h _ _ _ _ _ _ q s y
  refine Good.pure (v:= .agg cells) h ?_ (by have:=g;exact(show(cells:Array Va)=cells.toList.toArray by simp)▸ .agg cs cells.toList this.1 this.2)
  have r:P.built t (b.map λ(i,x)=>(i,a.eval x)).toList=some cells:=by simp[Program.built,hi,hu,hv,p];simpa using k
  simp[execOp,u,QY,run_build w t _ cells r,qac,qaj]
end
end
section
open Go.RowKit
section
variable{P:Pr}{E:En}{S:St}{a:Act}{w:Wo}{L:Nat->Va}{o:Oper}{x:PV}{wr:Y (Nat×gU)}{Γ:sF}{nid:Nat}
def Rel.aeJ(h:Rel E S a w L)(f:nid<S.N){cs:Z PV}{c:Array Va}(T:TI)(i:bo w (bn E S L) (S.gh L) cs c.toList):
  ∃e,Rel E (S.fM (some (nid,⟨(S.H nid).aw+1,.box cs⟩))) a (w.alloc (.cells c T)) e/\
   bp (w.alloc (.cells c T)) (bn E (S.fM (some (nid,⟨(S.H nid).aw+1,.box cs⟩))) e) ((S.fM (some (nid,⟨(S.H nid).aw+1,.box cs⟩))).gh e) (.ptr nid ((S.H nid).aw+1) 0) (.pointer (some ⟨w.heap.size,0,none⟩)):=by
 let⟨h1,hs,g⟩:=h.xN (w':=w.alloc (.cells c T)) f ⟨(S.H nid).aw+1,.box cs⟩ (.pointer (some ⟨w.heap.size,0,none⟩)) (.inr (qav _)) rfl rfl rfl t_
  (λb d _=>Below.heap_alloc _ _ _ d) (λb _ d=> .inr (by simp[cq,Qk]at d;omega))
  (λhs g=>⟨w.heap.size,c,T,rfl,qbs w _,.inr h.fr.size,i.mono hs g⟩)
 refine⟨_,h1,?_⟩;refine .ptr _ _ _ _ f ?_ (λ_=> ?_)
 .simp[St.gh,St.fM,cJ]
 .simp[St.gh,St.fM,cJ,cq]
def Rel.abw(h:Rel E S a w L)(m:nid<S.N){e k c:Nat}{es:Z (Z PV)}{d:Array Va}(p:∀u∈es,u.length=k)(f:es.length<=c)(r:c<=maxLen)(g:d.toList.length=c*k)(l:bo w (bn E S L) (S.gh L) es.flatten (d.toList.take (es.length*k))):
  ∃j,Rel E (S.fM (some (nid,⟨(S.H nid).aw+1,.row e k es⟩))) a (w.alloc (.cells d e)) j/\
   bp (w.alloc (.cells d e)) (bn E (S.fM (some (nid,⟨(S.H nid).aw+1,.row e k es⟩))) j) ((S.fM (some (nid,⟨(S.H nid).aw+1,.row e k es⟩))).gh j) (.own nid ((S.H nid).aw+1)) (.slice (some ⟨w.heap.size,0,none⟩) es.length c):=by
 have s:(d.toList.take (es.length*k)).length=es.length*k:=by rw[l.1,pa es k p]
 let⟨h1,hs,q⟩:=h.xN (w':=w.alloc (.cells d e)) m ⟨(S.H nid).aw+1,.row e k es⟩ (.slice (some ⟨w.heap.size,0,none⟩) es.length c) (.inr (qav _)) rfl rfl rfl t_
  (λb i _=>Below.heap_alloc _ _ _ i) (λb _ i=> .inr (by simp[cq,Qk]at i;omega))
  (λhs q=>⟨d.toList.take (es.length*k),⟨s,.inr ⟨w.heap.size,c,d,rfl,QJ (Sf E _) h.fr.size,qbs w _,f,r,by simpa using g,rfl⟩⟩,p,l.mono hs q⟩)
 refine⟨_,h1,?_⟩;refine .own _ _ _ _ _ m ?_ (λ_=> ?_)
 .simp[St.gh,St.fM,cJ]
 .simp[St.gh,St.fM,cJ]
def Rel.newRow(h:Rel E S a w L)(i:nid<S.N){e k:Nat}{es:Z (Z PV)}{b:Array Va}(g:∀u∈es,u.length=k)(j:es.length<=maxLen)(d:bo w (bn E S L) (S.gh L) es.flatten b.toList):
  ∃c,Rel E (S.fM (some (nid,⟨(S.H nid).aw+1,.row e k es⟩))) a (w.alloc (.cells b e)) c/\
   bp (w.alloc (.cells b e)) (bn E (S.fM (some (nid,⟨(S.H nid).aw+1,.row e k es⟩))) c) ((S.fM (some (nid,⟨(S.H nid).aw+1,.row e k es⟩))).gh c) (.own nid ((S.H nid).aw+1)) (.slice (some ⟨w.heap.size,0,none⟩) es.length es.length):=by
 have f:b.toList.length=es.length*k:=by rw[d.1,pa es k g]
 exact h.abw i g (Qs _) j f (by rw[<-f,QK];exact d)
def Sb(e:TI)(cells:Array Va):(newRow e cells).run P w= .ok ⟨w.heap.size,0,none⟩ (w.alloc (.cells cells e)):=rfl
def JF(e:TI)(v:Va):(newVar e v).run P w= .ok ⟨w.heap.size,0,none⟩ (w.alloc (.cells v.cells e)):=rfl
def ahS(h:Rel E S a w L)(g:nid<S.N){t:TI}{y:Od}{c:bD}(f:o.op= .box t y)(e:bK y=some c)(b:exec Γ nid S (.box c)=some (x,wr)):Good P E S a w o x wr:=by
 simp only[exec]at b;split at b
 .rename_i k;obtain⟨rfl,rfl⟩:=cd b;have r:=((h.ke e).cells (λz d=>Qn.1 k z d)).1
  let⟨l,j,i⟩:=h.aeJ g t r
  exact⟨_,_,l,_,by simp[execOp,f,Instr.box,JF],.inl rfl,i,j⟩
 .cases b
def ajq(h:Rel E S a w L)(f:nid<S.N){t:TI}{z:Z PV}(e:o.op= .alloc t)(c:yM P t=some z)(b:exec Γ nid S (.alloc z)=some (x,wr)):Good P E S a w o x wr:=by
 simp only[exec]at b;obtain⟨rfl,rfl⟩:=cd b
 let⟨i,v,hi,hv,hs,d⟩:=FM (P:=P) (w:=w) (M:=bn E S L) (G:=S.gh L) c
 let⟨k,j,g⟩:=h.aeJ f t d
 exact⟨_,_,k,_,by simp[execOp,e,Instr.alloc,zeroValue,typeInfo,hi,hv,JF],.inl rfl,g,j⟩
theorem Mp(z:Array Va)(c:0<z.size)(n:Nat):((Array.range (n*z.size)).map (z[· % z.size]!)).toList=(replicate n z.toList).flatten:=by
 apply List.ext_getElem?;intro i;have g:(replicate n z.toList).flatten.length=n*z.size:=by rw[pa _ z.size (λu b=>by rw[(List.mem_replicate.1 b).2];simp)];simp
 by_cases hi:i<n*z.size
 .have f:i / z.size<n:=by rw[Nat.div_lt_iff_lt_mul c];exact hi
  have d:i % z.size<z.size:=Nat.mod_lt _ c;have:=Cd (replicate n z.toList) z.size (i / z.size) z.toList (λu b=>by rw[(List.mem_replicate.1 b).2];simp) (by rw[List.getElem?_replicate,Qe f]) (i % z.size) d
  have e:i / z.size*z.size+i % z.size=i:=by rw[qbM];exact Nat.div_add_mod i z.size
  rw[e]at this;rw[this];simp[hi,d]
 .grind
def Ia{α:Type}:∀(es:Z (Z α)) (k i:Nat) (xs:Z α),(∀u∈es,u.length=k)->xs.length=k->i<es.length->(es.set i xs).flatten=es.flatten.take (i*k)++xs++es.flatten.drop (i*k+xs.length)
 |[],_,_,_,_,_,h=>by simp at h
 |e::es,k,i,xs,hk,b,hi=>by
  have c:e.length=k:=hk e t_
  cases i with
  |zero=>simp[List.set_cons_zero,List.flatten_cons,Nat.zero_mul,List.take_zero,List.nil_append,qau];rw[b,<-c,List.drop_left]
  |succ i=>
   have:=Ia es k i xs (λu d=>hk u (by simp[d])) b (by simpa using hi)
   simp[List.set_cons_succ,List.flatten_cons,this];have f:(i+1)*k=e.length+i*k:=by rw[Q1,c];omega
   rw[f,List.take_append,List.take_of_length_le (show e.length<=e.length+i*k by omega),qb8,Nat.add_assoc,List.drop_append,
    List.drop_eq_nil_of_le (show e.length<=e.length+(i*k+xs.length)by omega),qb8]
   simp
def WH(k:Nat):∀(ps:Z (Nat×bD)) (es b:Z (Z PV)),(∀u∈es,u.length=k)->yl S k es ps=some b->
  vn S es.flatten (ps.map λp=>(p.1*k,k,p.2))=some b.flatten/\(∀u∈b,u.length=k)/\b.length=es.length
 |[],es,b,hk,c=>by simp[yl,Qk]at c;subst c;exact⟨rfl,hk,rfl⟩
 |(i,y)::ps,es,b,hk,c=>by
  simp only[yl]at c;split at c
  .rename_i h
   let⟨h1,q,m⟩:=h
   have f:∀u∈es.set i (y.val S).cells,u.length=k:=by
    intro u d;rcases List.mem_or_eq_of_mem_set d with d|d
    .exact hk u d
    .rw[d,h1]
   let⟨g,l,j⟩:=WH k ps _ _ f c
   refine⟨?_,l,by simpa using j⟩
   have e:i*k+k<=es.flatten.length:=by
    rw[pa es k hk];have:=Q2 k (show i+1<=es.length by omega)
    rw[Q1]at this;omega
   simp only[Qy,vn];rw[Qe ⟨h1,e,m⟩];rw[Ia es k i _ hk h1 q]at g;exact g
  .cases c
def WT{k:Nat}:∀{b:Z (Nat×Od)} {ps:Z (Nat×bD)},(b.mapM λp=>(bK p.2).map λy=>(p.1,y))=some ps->Ae (λj=>some (j*k,k)) b=some (ps.map λp=>(p.1*k,k,p.2))
 |[],ps,h=>by simp at h;subst h;simp[Ae]
 |p::b,ps,h=>by simp only[qaa,Qu,Qm,qaf,Qk,Qq]at h;obtain⟨q,⟨y,e,rfl⟩,f,c,rfl⟩:=h;have d:=WT (k:=k) c;unfold Ae at d ⊢;simp only[qaa,d];simp[e]
theorem Ao{M:Nat->Prop}{G:Gh}{z:Z PV}{vs:Z Va}(h:bo w M G z vs):∀n,bo w M G (replicate n z).flatten (replicate n vs).flatten
 |0=>by simpa using bo.nil
 |n+1=>by simp[List.replicate_succ,List.flatten_cons];exact h.append (Ao h n)
def bp.Vy{M:Nat->Prop}{G G':Gh}{y:PV}{v:Va}(h:bp w M G y v)(g:y.closed=true):bp w M G' y v:=by
 cases h with
 |any|undef|kP|agg|ff|ptr|own|fK|view=>simp[PV.closed]at g
 |int=>exact .int _ _
 |bool=>exact .bool _
 |iD=>first|exact .iD _|simp[PV.closed]at g
 |str=>exact .str _
 |nj=>exact .nj
 |eV=>exact .eV
 |bJ f cs vs e h=>
  cases cs with
  |nil=>exact .bJ f [] vs e (λi x v l _=>by simp at l)
  |cons=>simp[PV.closed]at g
 |ref cs ad vs e d h=>exact .ref cs ad vs e d h
 |sl es ad c k vs hk e d h m hm=>exact .sl es ad c k vs hk e d h m hm
 |slnil=>exact .slnil
 |og ks us b es r p j hk hv h1 q=>exact .og ks us b es r p j hk hv h1 q
def alp(h:Rel E S a w L){t:TI}{y:Od}{e:bD}(A:o.op= .box t y)(p:bK y=some e)(d:exec Γ nid S (.Ii e)=some (x,wr)):Good P E S a w o x wr:=by
 simp only[exec]at d;split at d
 .rename_i l;rw[Qi]at l;obtain⟨rfl,rfl⟩:=cd d;have r:=((h.ke p).cells (λz c=>Qn.1 l.1 z c)).1
  let⟨D,g⟩:=h.grow (w':=w.alloc (.cells (a.eval y).cells t)) rfl rfl rfl t_ (λb k=>Below.heap_alloc _ _ _ k)
  refine⟨.value (.pointer (some ⟨w.heap.size,0,none⟩)),_,L,_,by simp[execOp,A,Instr.box,JF],.inl rfl,?_,D⟩
  have r2:bo (w.alloc (.cells (a.eval y).cells t)) (bn E S L) dz (e.val S).cells (a.eval y).cells.toList:=
   ⟨r.1,λm z v0 c f=>((r.2 m z v0 c f).mono g (Gh.le.refl _)).Vy (Qn.1 l.2 z (QL c))⟩
  refine .ref _ _ (a.eval y).cells.toList r2.1 (λq u s=>⟨?_,λi=> ?_⟩) r2.2
  .rw[add_mid];exact tU (qbs w _) (by simpa using s)
  .rcases i with⟨id,j,B,k⟩|i
   .have:=((h.obj id j).Ag B k).1;exact absurd this (qbq _)
   .exact absurd (h.afI i) (qbq _)
 .cases d
theorem bp.nz{M:Nat->Prop}{G:Gh}{y:PV}{v:Va}(h:bp w M G y v):bp w M G (nz y) v:=by
 cases h with
 |eV|slnil=>exact .slnil
 |any=>exact .any _
 |undef=>exact .undef
 |int=>exact .int _ _
 |bool=>exact .bool _
 |iD=>exact .iD _
 |str=>exact .str _
 |nj=>exact .nj
 |bJ f cs vs d h=>exact .bJ f cs vs d h
 |kP f cs vs d h=>exact .kP f cs vs d h
 |agg cs vs d h=>exact .agg cs vs d h
 |ff cs vs d h=>exact .ff cs vs d h
 |ptr _ _ _ _ h1 e g=>exact .ptr _ _ _ _ h1 e g
 |ref cs ad vs d i h=>exact .ref cs ad vs d i h
 |sl es ad c k vs hk d i h l hm=>exact .sl es ad c k vs hk d i h l hm
 |own _ _ _ _ _ h1 e g=>exact .own _ _ _ _ _ h1 e g
 |fK _ _ _ _ _ _ h1 e g=>exact .fK _ _ _ _ _ _ h1 e g
 |view _ _ _ _ _ _ _ h1 e g=>exact .view _ _ _ _ _ _ _ h1 e g
 |og ks us b es p m j hk hv h1 e=>exact .og ks us b es p m j hk hv h1 e
theorem bo.nz{M:Nat->Prop}{G:Gh}{cs:Z PV}{vs:Z Va}(h:bo w M G cs vs):bo w M G (cs.map Go.TQ.nz) vs:=
 ⟨by simp[h.1],λi x v b hv=>by
  rw[QG,Qq]at b;obtain⟨y,c,rfl⟩:=b
  exact(h.2 i y v c hv).nz⟩
theorem O5(es:Z (Z PV)):(F1 es).flatten=es.flatten.map nz:=by simp[F1,List.map_flatten]
def acY(es:Z (Z PV)):(F1 es).length=es.length:=by simp[F1]
def aiW{es:Z (Z PV)}{k:Nat}(h:∀u∈es,u.length=k):∀u∈F1 es,u.length=k:=by grind [F1]
theorem aeC{y:PV}(h:y.closed=true):(nz y).closed=true:=by cases y<;>simp_all [nz,PV.closed]
def amO(h:Rel E S a w L)(hn:nid<S.N){t e:TI}{len:Nat}{c:Array (Nat×Od)}{i:TypeInfo}{z:Z PV}{ps:Z (Nat×bD)}{mb:Bool}(ho:o.op= .buildSlice t len c)(ht:P.underlying t=some (.slice e))
  (hi:P.info? e=some i) (hz:yM P e=some z) (U:(c.toList.mapM λp=>(bK p.2).map λy=>(p.1,y))=some ps) (N:len*i.size<=16777216) (h0:0<i.size) (hlen:len<=maxLen)
  (r:exec Γ nid S (.Ua mb e i.size (replicate len z) ps)=some (x,wr)):Good P E S a w o x wr:=by
 simp only[exec]at r;split at r
 case h_2=>cases r
 rename_i es hf;obtain⟨i',v,g,hv,hs,hr⟩:=FM (P:=P) (w:=w) (M:=bn E S L) (G:=S.gh L) hz;rw[hi]at g;injection g with g
 subst g;have H:z.length=i.size:=by have:=hr.1;simp at this;omega
 obtain⟨h3,h4,h5⟩:=WH i.size ps _ _ (λu K=>by rw[(List.mem_replicate.1 K).2,H]) hf
 have T:bo w (bn E S L) (S.gh L) (replicate len z).flatten ((Array.range (len*i.size)).map (v.cells[· % v.cells.size]!)).toList:=by grind [Mp,Ao]
 obtain⟨cells,X,hr'⟩:=N2 h _ _ _ _ _ _ (WT U) T h3;have D:(F1 es).length=len:=by rw[acY,h5];simp
 replace h4:=aiW h4;replace hr':=hr'.nz;rw[<-O5]at hr'
 have k:(execOp a.eval o).run P w= .ok (.value (.slice (some ⟨w.heap.size,0,none⟩) len len)) (w.alloc (.cells cells e)):=by
  have d:Instr.fill (λj=>some (j*i.size,i.size)) ((Array.range (len*i.size)).map (v.cells[· % v.cells.size]!)) (c.map λp=>(p.1,a.eval p.2)).toList=some cells:=by simpa using X
  by_cases m:len*i.size=0
  .simp[execOp,ho,Instr.buildSlice,QP ht,sizeOf,typeInfo,hi,m]at d ⊢;have B:len=0:=by rcases Nat.mul_eq_zero.1 m with h|h<;>omega
   subst B;have A:∀f:Nat->Va,Array.map f (Array.range 0)=#[]:=λf=>t_
   rw[A]at d ⊢;rw[show Instr.fill (λl=>some (l*i.size,i.size)) #[] (List.map (λx=>(x.fst,a.eval x.snd)) c.toList)=some cells from d]
   simp[Sb]
  .simp[execOp,ho,Instr.buildSlice,QP ht,sizeOf,typeInfo,zeroValue,hi,hv,m,Nat.not_lt.2 N]at d ⊢;rw[show Instr.fill (λl=>some (l*i.size,i.size)) (Array.map (λx=>v.cells[x % v.cells.size]!) (Array.range (len*i.size))) (List.map (λx=>(x.fst,a.eval x.snd)) c.toList)=some cells from d]
   simp[Sb]
 split at r
 .rename_i hcl;obtain⟨rfl,rfl⟩:=cd r;obtain⟨h1,R⟩:=h.grow (w':=w.alloc (.cells cells e)) rfl rfl rfl t_ (λb hb=>Below.heap_alloc _ _ _ hb)
  refine⟨_,_,L,_,k,.inl rfl,?_,h1⟩
  have F:∀y∈(F1 es).flatten,y.closed=true:=λy I=>by grind [O5,aeC]
  have s:bo (w.alloc (.cells cells e)) (bn E S L) dz (F1 es).flatten cells.toList:=
   ⟨hr'.1,λi0 y v0 I J=>((hr'.2 i0 y v0 I J).mono R (Gh.le.refl _)).Vy (F y (QL I))⟩
  rw[<-D];refine .sl (F1 es) _ _ i.size cells.toList h4 s.1 (λq u K=>⟨?_,λV=> ?_⟩) s.2 (Qs _) O
  .rw[add_mid];exact tU (qbs w _) (by simpa using K)
  .rcases V with⟨id,W,hl,hb⟩|V
   .have:=((h.obj id W).Ag hl hb).1;exact absurd this (qbq _)
   .exact absurd (h.afI V) (qbq _)
 .obtain⟨rfl,rfl⟩:=cd r
  let⟨L',h6,h7⟩:=h.newRow (e:=e) hn h4 O hr'
  rw[D]at h7;exact⟨_,_,L',_,k,.inl rfl,h7,h6⟩
def amJ(h:Rel E S a w L)(hn:nid<S.N){t e:TI}{y z:Od}{K J:bD}{i:TypeInfo}{f:Z PV}(ho:o.op= .makeSlice t y z)(X:P.underlying t=some (.slice e))(hi:P.info? e=some i)(h0:0<i.size)(V:yM P e=some f)
  (W:bK y=some K) (r:bK z=some J) (d:exec Γ nid S (.SR e i.size i.bytes f K J)=some (x,wr)):Good P E S a w o x wr:=by
 have R:=h.ke W;have N:=h.ke r;simp only[exec]at d;split at d
 .rename_i k n k' m e1 e2;split at d
  .rename_i hb;obtain⟨B,D,hby,l⟩:=hb;obtain⟨rfl,rfl⟩:=cd d;rw[e1]at R;rw[e2]at N;have hv:=R.jT;have g:=N.jT;obtain⟨i',v,b,s,hs,T⟩:=FM (P:=P) (w:=w) (M:=bn E S L) (G:=S.gh L) V;rw[hi]at b;injection b with b
   subst b;have q:f.length=i.size:=by have:=T.1;simp at this;omega
   have F:n.toNat<=m.toNat:=O
   have j:(madeCells v.cells (m.toNat*i.size)).toList=(replicate m.toNat v.cells.toList).flatten:=by
    unfold madeCells
    grind [Mp]
   have H:(madeCells v.cells (m.toNat*i.size)).toList.length=m.toNat*i.size:=by simp[madeCells]
   have A:bo w (bn E S L) (S.gh L) (replicate n.toNat (f.map nz)).flatten ((madeCells v.cells (m.toNat*i.size)).toList.take ((replicate n.toNat (f.map nz)).length*i.size)):=by
    rw[j,List.length_replicate,show m.toNat=n.toNat+(m.toNat - n.toNat)by omega,<-List.replicate_append_replicate,List.flatten_append,List.take_left' (by rw[pa _ i.size λu g=>by rw[(List.mem_replicate.1 g).2];simpa using hs,List.length_replicate])]
    exact Ao T.nz _
   obtain⟨L',h6,U⟩:=h.abw (e:=e) (k:=i.size) (c:=m.toNat) hn (λu g=>by rw[(List.mem_replicate.1 g).2,QD,q]) (by rw[List.length_replicate];exact F) l H A
   simp[List.length_replicate]at U;refine⟨_,_,L',_,?_,.inl rfl,U,h6⟩
   have I:(i.bytes:Int)*m<=281474976710656:=by grind
   have p:m<=9223372036854775807:=by simp[maxLen]at l;omega
   have:=run_make (P:=P) w t e i v X hi s k k' n m D B I p;simp[execOp,ho,hv,g,QY,this,qac,qaj]
  .cases d
 .cases d
def LV{t:TI}{y z:Od}{b off:Nat}{c:Array Va}{T:TI}{i:TypeInfo}(d:o.op= .store t y z)(hi:P.info? t=some i)(hv:a.eval y= .pointer (some ⟨b,off,none⟩))(f:w.heap[b]?=some (.cells c T (0,0)))
  (hs:(a.eval z).cells.size=i.size) (e:off+i.size<=c.size) (g:∀u∈(a.eval z).cells.toList,u.oneCell'=true):
  (execOp a.eval o).run P w= .ok .skip (w.setRow b (c.toList.take off++(a.eval z).cells.toList++c.toList.drop (off+i.size)).toArray):=by
 have:=qbN (P:=P) b off T (a.eval z).cells.toList 0 c w f o_ g;simp[qbe,qar,hs]at this;simp[execOp,d,hv,Instr.storeAt,Instr.sureAddr,storeVar,sizeOf,typeInfo,hi,hs,this]
theorem ack{α:Type}(F c xs:Z α)(k J off n:Nat)(i:c.length=k)(d:J+k<=F.length)(h:xs.length=n)(b:off+n<=k)(e:∀q,q<k->F[J+q]?=c[q]?):
  F.take J++(c.take off++xs++c.drop (off+n))++F.drop (J+k)=F.take (J+off)++xs++F.drop (J+off+n):=by
 have g:F.take (J+off)=F.take J++c.take off:=by
  apply List.ext_getElem?
  grind
 have f:F.drop (J+off+n)=c.drop (off+n)++F.drop (J+k):=by
  apply List.ext_getElem?
  grind
 rw[g,f];simp[qah]
theorem OY{α:Type}(b xs:Z α)(p n m:Nat)(c:xs.length=n)(f:p+n<=m)(d:m<=b.length):
  (b.take p++xs++b.drop (p+n)).take m=(b.take m).take p++xs++(b.take m).drop (p+n):=by
 rw[List.take_take,qaD O,List.take_append,List.take_of_length_le o_];congr 1;have e:(b.take p++xs).length=p+n:=o_;rw[e,List.drop_take]
def ajl(h:Rel E S a w L){t:TI}{y z:Od}{y' m:bD}{i:TypeInfo}(ho:o.op= .store t y z)(hi:P.info? t=some i)(hy:bK y=some y')(hz:bK z=some m)
  (d:exec Γ nid S (.store i.size y' m)=some (x,wr)):Good P E S a w o x wr:=by
 have r:=h.ke hy;simp only[exec]at d;split at d
 .rename_i hb;obtain⟨hl,h1⟩:=hb;have N:=(h.ke hz).cells (λu hu=>Qn.1 h1 u hu)
  have hs:(a.eval z).cells.size=i.size:=by have:=N.1.1;simp at this;omega
  split at d
  .rename_i id aw off e;rw[e]at r;split at d
   .rename_i l;split at d
    .rename_i cs A;split at d
     .rename_i hle;obtain⟨rfl,rfl⟩:=cd d;obtain⟨hN,_⟩:=r.rQ (show(S.gh L).V id=aw from l)
      obtain⟨b,hv,D⟩:=h.xT r l A;obtain⟨b',f,T,J,W,hr,hE⟩:=h.tV hN A;rw[D]at J;simp only[Value.pointer.injEq,Qk,qa4]at J;obtain⟨rfl,_⟩:=J;have hcl:f.size=cs.length:=by have:=hr.1;simpa using this
      have s:=LV (P:=P) ho hi hv W hs O N.2
      obtain⟨h2,p,X⟩:=h.xN (w':=w.setRow b (f.toList.take off++(a.eval z).cells.toList++f.toList.drop (off+i.size)).toArray) hN ⟨aw,.box (jI cs off (m.val S).cells)⟩ (L id) (.inl ⟨l.symm,rfl,by rw[A];rfl⟩) rfl rfl rfl t_
       (λk I H=>qbO w b k _ (λek=>H (by rw[A];rfl) (by rw[D,ek];rfl)))
       (λk _ I=> .inl ⟨by rw[A];rfl,I⟩)
       (λp X=>⟨b,_,T,D,qaV w b f _ T _ W,hE,by
        have:=(hr.jI N.1 off).mono p X
        simpa[hs]using this⟩)
      exact⟨_,_,_,undef,s,.inr ⟨rfl,rfl⟩,.undef,h2⟩
     .cases d
    .cases d
   .cases d
  .rename_i id aw k j off e;rw[e]at r;have K:=N.1.nz;have hl1:((m.val S).cells.map nz).length=i.size:=by simpa using hl
   split at d
   .rename_i l;split at d
    .rename_i e0 k' es A;split at d
     .rename_i I;subst I;split at d
      .rename_i c hcj;split at d
       .rename_i hle;obtain⟨rfl,rfl⟩:=cd d;obtain⟨hN,hv⟩:=r.Ry (show(S.gh L).V id=aw from l)
        obtain⟨vs,B,I,hr⟩:=h.mR hN A;have hj:j<es.length:=(QH.1 hcj).1;rcases B.2 with⟨D,h0⟩|⟨g,cap,f,D,hb1,W,V,hcm,hcs,F⟩
        .omega
        rw[show(S.gh L).L id=L id from rfl,D]at hv
        simp only[cq,Qo]at hv;have hck:c.length=k:=I c (QL hcj)
        have hjk:j*k+k<=es.length*k:=by
         have:=Q2 k (show j+1<=es.length by omega)
         rw[Q1]at this;omega
        have hvl:vs.length=es.length*k:=B.1;have hcapk:es.length*k<=cap*k:=Q2 _ V;have s:=LV (P:=P) ho hi hv W hs O N.2;have R:(jI c off ((m.val S).cells.map nz)).length=k:=by simp[jI,hl1];omega
        have hk2:∀u∈es.set j (jI c off ((m.val S).cells.map nz)),u.length=k:=by grind
        have hz2:((m.val S).cells.map nz).length=(a.eval z).cells.toList.length:=K.1.symm
        have hfl:(es.set j (jI c off ((m.val S).cells.map nz))).flatten=jI es.flatten (j*k+off) ((m.val S).cells.map nz):=by
         rw[Ia es k j _ I R hj,R]
         grind [jI,ack,nz,pa,Cd]
        have U:(w.setRow g (f.toList.take (j*k+off)++(a.eval z).cells.toList++f.toList.drop (j*k+off+i.size)).toArray).ownsRow (gE E (L id)) e0 k (L id) (es.set j (jI c off ((m.val S).cells.map nz))).length (vs.take (j*k+off)++(a.eval z).cells.toList++vs.drop (j*k+off+i.size)):=by
         refine⟨by simp[hvl,hs];omega,.inr ⟨g,cap,_,by rw[D];simp,hb1,qaV w g f _ e0 _ W,by simpa using V,hcm,by simp[hcs,hs];omega,?_⟩⟩
         simp only[qan];rw[<-F];simpa using OY f.toList (a.eval z).cells.toList (j*k+off) i.size (es.length*k) (by simpa using hs) O (by simp[hcs];omega)
        obtain⟨h2,p,X⟩:=h.xN (w':=w.setRow g (f.toList.take (j*k+off)++(a.eval z).cells.toList++f.toList.drop (j*k+off+i.size)).toArray) hN ⟨aw,.row e0 k (es.set j (jI c off ((m.val S).cells.map nz)))⟩ (L id) (.inl ⟨l.symm,rfl,by rw[A];rfl⟩) rfl rfl rfl t_
         (λq hq H=>qbO w g q _ (λek=>H (by rw[A];rfl) (by rw[D,ek];rfl)))
         (λq _ hq=> .inl ⟨by rw[A];rfl,hq⟩)
         (λp X=>⟨_,U,hk2,by
          rw[hfl];have:=(hr.jI K (j*k+off)).mono p X
          simpa[hs]using this⟩)
        exact⟨_,_,_,undef,s,.inr ⟨rfl,rfl⟩,.undef,h2⟩
       .cases d
      .cases d
     .cases d
    .cases d
   .cases d
  .cases d
 .cases d
end
end
section
open Go.RowKit
section
variable{P:Pr}{E:En}{S:St}{a:Act}{w:Wo}{L:Nat->Va}{o:Oper}{x:PV}{wr:Y (Nat×gU)}{Γ:sF}{nid:Nat}
def FC(h:Rel E S a w L){y:Y Od}{c:Y bD}(f:y.mapM bK=some c){d n:Int}(b:xf S c d=some n):
  (y=none/\n=d)\/∃z k,y=some z/\a.eval z= .int k n:=by
 cases y with
 |none=>grind [xf]
 |some z=>
  simp[Option.mapM_some,Option.map_eq_map,Qq]at f;obtain⟨i,g,rfl⟩:=f;have r:=h.ke g;simp[xf]at b;split at b
  .rename_i k m e;rw[e]at r;injection b with b
   subst b;exact .inr ⟨z,k,rfl,r.jT⟩
  .cases b
theorem yj{α:Type}(k:Nat):∀(m:Nat) (b:Z (Z α)),(∀u∈b,u.length=k)->(b.take m).flatten=b.flatten.take (m*k)
 |0,b,_|m+1,[],_=>t_
 |m+1,u::us,c=>by
  have d:u.length=k:=c u t_;simp[List.take_succ_cons,List.flatten_cons,yj k m us (λq e=>c q (by simp[e]))]
  rw[Q1,qaA,qaL,<-d,List.take_length_add_append]
theorem Cc{α:Type}(k:Nat):∀(m:Nat) (b:Z (Z α)),(∀u∈b,u.length=k)->(b.drop m).flatten=b.flatten.drop (m*k)
 |0,b,_|m+1,[],_=>t_
 |m+1,u::us,c=>by
  have d:u.length=k:=c u t_;simp[List.drop_succ_cons,List.flatten_cons,Cc k m us (λq e=>c q (by simp[e]))]
  rw[Q1,qaA,qaL,<-d,List.drop_length_add_append]
def NG{t e:TI}{y:Od}{lo hi:Y Od}{i:TypeInfo}{ad:Y Addr}{n c:Nat}{l h:Int}(q:o.op= .slice t y lo hi none)(g:P.underlying t=some (.slice e))(j:P.info? e=some i)
  (hv:a.eval y= .slice ad n c) (b:(lo=none/\l=0)\/∃z k,lo=some z/\a.eval z= .int k l) (d:(hi=none/\h=n)\/∃z k,hi=some z/\a.eval z= .int k h) (A:0<=l) (u:l<=h) (s:h<=n) (r:n<=c):
  (execOp a.eval o).run P w= .ok (.value (.slice (if c=l.toNat then ad else ad.map (·.add (l.toNat*i.size))) (h.toNat - l.toNat) (c - l.toNat))) w:=by
 have F:0<=h:=O;have D:h<=(c:Int):=O;have B:l<=((h.toNat:Nat):Int):=O
 rcases b with⟨rfl,rfl⟩|⟨z,k,rfl,p⟩<;>rcases d with⟨rfl,rfl⟩|⟨z2,m,rfl,f⟩<;>
  simp[execOp,Instr.sliceAt,Instr.slice,QP g,Instr.sliceBounds,Instr.sliceBound,asIntOf,sizeOf,typeInfo, *]<;>omega
def amH(h:Rel E S a w L){t e:TI}{y:Od}{lo hi:Y Od}{y':bD}{lo' hi':Y bD}{i:TypeInfo}(ho:o.op= .slice t y lo hi none)(ht:P.underlying t=some (.slice e))(N:P.info? e=some i)
  (hy:bK y=some y') (V:lo.mapM bK=some lo') (W:hi.mapM bK=some hi') (b:exec Γ nid S (.LM i.size y' lo' hi')=some (x,wr)):Good P E S a w o x wr:=by
 have r:=h.ke hy;simp only[exec]at b;split at b
 .rename_i es e0;rw[e0]at r;split at b
  .rename_i hall;have X:∀u∈es,u.length=i.size:=λu K=>by have:=Qn.1 hall u K;simpa using this
   split at b
   .rename_i l F el eh;split at b
    .rename_i hb
     let⟨B,A,z⟩:=hb
     obtain⟨rfl,rfl⟩:=cd b;have hl:=FC h V (d:=0) (n:=l) (by unfold xf;exact el)
     have s:=FC h W (d:=(es.length:Int)) (n:=F) (by unfold xf;exact eh)
     have H:((es.take F.toNat).drop l.toNat).length=F.toNat - l.toNat:=o_;rcases r.Ix with⟨hv,T⟩|⟨ad,c,k,vs,hv,hk,hr,hc,hn,hm⟩
     .subst T;refine Good.pure h (NG (n:=0) ho ht N hv hl (by simpa using s) B A (by simpa using z) (Qs _)) ?_
      grind
     .refine Good.pure h (NG ho ht N hv hl s B A z hn) ?_;rw[<-H];have I:∀u∈(es.take F.toNat).drop l.toNat,u.length=i.size:=λu K=>X u (qa0 (qbc K))
      have hfl:((es.take F.toNat).drop l.toNat).flatten=(es.flatten.take (F.toNat*i.size)).drop (l.toNat*i.size):=by
       have t1:∀(m:Nat) (D:Z (Z PV)),(∀u∈D,u.length=i.size)->(D.take m).flatten=D.flatten.take (m*i.size):=by
        intro m
        induction m with
        |zero=>intro D _;simp
        |succ m ih=>
         intro D hf
         cases D with
         |nil=>simp
         |cons u us=>
          have K:u.length=i.size:=hf u t_;simp[List.take_succ_cons,List.flatten_cons,ih us (λq hq=>hf q (by simp[hq]))]
          rw[Q1,qaA,qaL,<-K,List.take_length_add_append]
       have t2:∀(m:Nat) (D:Z (Z PV)),(∀u∈D,u.length=i.size)->(D.drop m).flatten=D.flatten.drop (m*i.size):=by
        intro m
        induction m with
        |zero=>intro D _;simp
        |succ m ih=>
         intro D hf
         cases D with
         |nil=>simp
         |cons u us=>
          have K:u.length=i.size:=hf u t_;simp[List.drop_succ_cons,List.flatten_cons,ih us (λq hq=>hf q (by simp[hq]))]
          rw[Q1,qaA,qaL,<-K,List.drop_length_add_append]
       grind
      have U:=(hr.take (F.toNat*i.size)).drop (l.toNat*i.size);rw[<-hfl]at U
      by_cases hcl:c=l.toNat
      .have hnil:(es.take F.toNat).drop l.toNat=[]:=qaz (by rw[H];omega)
       rw[Qe hcl,hnil];exact .sl [] ad _ i.size [] t_ t_ (λj u K=>by simp at K) (λj p u hp=>by simp at hp) (QT _) O
      .rw[Qg hcl];simp only[Qo];refine .sl _ _ _ i.size _ I U.1 (λj u K=> ?_) U.2 (by rw[H];omega) O
       grind [add_add,block_add,iM]
    .cases b
   .cases b
  .cases b
 .rename_i id aw e0;rw[e0]at r;split at b
  .rename_i f;split at b
   .rename_i e1 k' es hcc;split at b
    .rename_i I;subst I;split at b
     .rename_i l F el eh;split at b
      .rename_i hb
       let⟨B,A,z⟩:=hb
       obtain⟨rfl,rfl⟩:=cd b
       let⟨hN,hv⟩:=r.pR (show(S.gh L).V id=aw from f)
       let⟨vs,hown,hk,hr⟩:=h.mR hN hcc
       have hl:=FC h V (d:=0) (n:=l) el;have s:=FC h W (d:=(es.length:Int)) (n:=F) eh
       have R:∃ad c,L id= .slice ad es.length c/\es.length<=c:=by
        rcases hown.2 with⟨R,T⟩|⟨g,cap,cur,R,_,_,hnc,_⟩
        .grind
        .exact⟨_,cap,R,hnc⟩
       let⟨ad,c,R,hc⟩:=R
       rw[show(S.gh L).L id=L id from rfl,R]at hv
       refine Good.pure h (NG ho ht N hv hl s B A z hc) ?_;refine .view _ _ _ _ _ _ _ hN (qaU f.symm) (λ_=>⟨ad,es.length,c,R,O,hc,rfl,?_⟩)
       by_cases T:c=l.toNat
       .rw[Qe T]
        by_cases h1:l.toNat=0
        .right;rw[h1];cases ad<;>simp[Addr.add]
        .left;exact⟨O,h1,λe=>e⟩
       .rw[Qg T];right;rfl
      .cases b
     .cases b
    .cases b
   .cases b
  .cases b
 .rename_i id aw k0 lo0 n0 e0;rw[e0]at r;split at b
  .rename_i f;split at b
   .rename_i e1 k' es hcc;split at b
    .rename_i I
     let⟨hk1,hk2⟩:=I
     subst hk2;split at b
     .rename_i l F el eh;split at b
      .rename_i hb
       let⟨B,A,z⟩:=hb
       obtain⟨rfl,rfl⟩:=cd b
       let⟨hN,ad,c,hv,a0,m0,c0,R,q1,q2,q3,J⟩:=r.CJ (show(S.gh L).V id=aw from f)
       have hl:=FC h V (d:=0) (n:=l) el;have s:=FC h W (d:=(n0:Int)) (n:=F) eh;refine Good.pure h (NG ho ht N hv hl s B A z O) ?_;refine .view _ _ _ _ _ _ _ hN (qaU f.symm) (λ_=>⟨a0,m0,c0,R,O,q2,O,?_⟩)
       by_cases T:c=l.toNat
       .rw[Qe T]
        by_cases h1:lo0+l.toNat=0
        .grind
        .left;refine⟨O,h1,λe=> ?_⟩
         rcases J with J|J
         .exact J.2.2 e
         .rw[J]at e;cases a0<;>first|rfl|cases e
       .rw[Qg T];rcases J with J|J
        .left;refine⟨O,O,λe=>J.2.2 ?_⟩
         cases ad<;>first|rfl|cases e
        .right;rw[J];cases a0<;>simp[add_add,Q1]
      .cases b
     .cases b
    .cases b
   .cases b
  .cases b
 .cases b
def Ol{base:Nat}{t ty e:TI}{i:TypeInfo}{size:Nat}(f:P.underlying t=some (.slice e))(hi:P.info? e=some i)
  {v:Va} {n:Nat} {xs:Z Va} (b:w.ownsRow base e size v n xs) (c:Nat):(Builtin.append_ #[t,t] ty #[v,.slice none 0 c]).run P w= .ok v w:=by
 rcases b.2 with⟨rfl,rfl⟩|⟨g,cap,h,rfl,_,_,d,_⟩
 .simp[Builtin.append_,QP f,sizeOf,typeInfo,hi,Builtin.lenOf,Builtin.firstCells]
 .simp[Builtin.append_,QP f,sizeOf,typeInfo,hi,Builtin.lenOf,Builtin.firstCells,d,storeCells]
def Rel.Pn(h:Rel E S a w L){y:PV}{v:Va}{es:Z (Z PV)}(r:bp w (bn E S L) (S.gh L) y v)(b:jY S y=some es):
  (v= .slice none 0 0/\es=[])\/∃(ad:Addr) (c:Nat) (vs:Z Va),v= .slice (some ad) es.length c/\bo w (bn E S L) (S.gh L) es.flatten vs/\(∀(i:Nat) (u:Va),vs[i]?=some u->w.cell? (ad.add i)=some u):=by
 unfold jY at b;split at b
 .cases b;exact .inl ⟨r.wc,rfl⟩
 .cases b;rcases r.Ix with⟨hv,z⟩|⟨ad,c,k,vs,hv,hk,p,m,_⟩
  .exact .inl ⟨hv,z⟩
  .exact .inr ⟨ad,c,vs,hv,p.mono (dp.of λ_ N=>N) (dz.le _),λi u A=>(m i u A).1⟩
 .rename_i id aw;split at b
  .rename_i e;split at b
   .rename_i m;cases b
    let⟨t,hv⟩:=r.pR (show(S.gh L).V id=aw from e)
    let⟨vs,d,hk,p⟩:=h.mR t m
    rcases d.2 with⟨f,z⟩|⟨g,cap,H,f,_,R,_,_,_,j⟩
    .exact .inl ⟨by rw[hv];exact f,qaz z⟩
    .refine .inr ⟨⟨g,0,none⟩,cap,vs,by rw[hv];exact f,p,λi u A=> ?_⟩
     exact d.cells (g:=g) (by rw[f];rfl) i u A
   .cases b
  .cases b
 .rename_i id aw k lo n;split at b
  .rename_i e;split at b
   .rename_i K k' l m;split at b
    .rename_i J;subst J;cases b
     let⟨t,ad,c,hv,q⟩:=r.CJ (show(S.gh L).V id=aw from e)
     have J:=h.Nx t m q
     let⟨a0,m0,c0,f,q1,q2,W,V⟩:=q
     let⟨vs,d,hk,p⟩:=h.mR t m
     have f:L id= .slice a0 m0 c0:=f;have I:((l.drop lo).take n).length=n:=o_;rcases d.2 with⟨s,z⟩|⟨g,cap,H,s,_,R,_,_,_,j⟩
     .grind
     .rw[s]at f;injection f with K U T
      subst K U T
      have F:((l.drop lo).take n).flatten=(l.flatten.drop (lo*k')).take (n*k'):=by grind [yj,Cc]
      have B:=(p.drop (lo*k')).take (n*k');rw[<-F]at B
      by_cases D:n=0
      .subst D
       cases ad with
       |none|some ad=>grind
      .grind [add_mid,tU,iM]
    .cases b
   .cases b
  .cases b
 .cases b
def pA{v:Va}{ad:Y Addr}{n c:Nat}(h:v= .slice ad n c):v.ownBlock=cq v:=by subst h;cases ad<;>rfl
def GD{P:Pr}(w:Wo)(base:Nat)(t ty e:TI)(i:TypeInfo)(z:Va)(size p:Nat)(B:P.underlying t=some (.slice e))(hi:P.info? e=some i)(K:i.zero=some z)
  (q:i.size=size) (I:i.bytes=p) (R:0<size)
  (v:Va) (n:Nat) (xs:Z Va) (l:w.ownsRow base e size v n xs)
  (a:Addr) (m c:Nat) (b:Z Va) (s:b.length=m*size) (d:∀j u,b[j]?=some u->w.cell? (a.add j)=some u) (h1:∀u∈b,u.oneCell'=true)
  (J:n+m<=maxLen) (f:(n+m)*p<=140737488355328) {v':Va} {w':Wo} (N:(Builtin.append_ #[t,t] ty #[v,.slice (some a) m c]).run P w= .ok v' w'):w.drawn<=w'.drawn:=by
 subst q;subst I;have D:n+m<=9223372036854775807:=by simp[maxLen]at J;omega
 have fin:∀{u:Va} {W:Wo},(Builtin.append_ #[t,t] ty #[v,.slice (some a) m c]).run P w= .ok u W->w.drawn<=W.drawn->w.drawn<=w'.drawn:=λh hd=>by grind
 rcases l.2 with⟨rfl,rfl⟩|⟨g,cap,A,rfl,hbg,V,T,X,H,F⟩
 .by_cases U:m=0
  .subst U;have hn:b=[]:=qaz (by simpa using s)
   refine fin (u:= .slice none 0 0) (W:=w) ?_ (Qs _);simp[Builtin.append_,QP B,sizeOf,typeInfo,hi,Builtin.lenOf,Builtin.firstCells,loadCells,loadCellsFrom]
  .exact fin (run_append_nil (P:=P) w t ty e i z B hi K a m c b s d O O (by have hb:=f;simp[qau]at hb;omega)) (qa1 _)
 .by_cases k:n+m<=cap
  .have y:n*i.size+b.length<=A.size:=by rw[s,H,<-Q1];exact Q2 _ k
   exact fin (run_append_room (P:=P) w t ty e i B hi g n cap A V a m c b s d h1 k y) (Qs _)
  .have r:∀j u,xs[j]?=some u->w.cell? ((⟨g,0,none⟩:Addr).add j)=some u:=l.cells (g:=g) rfl;exact fin (run_append_grow (P:=P) w t ty e i z B hi K ⟨g,0,none⟩ n cap xs l.1 r a m c b s d O O (growslice_fits O f)) (qa1 _)
def ahT(h:Rel E S a w L)(hn:nid<S.N){t e:TI}{y z:Od}{y' z':bD}{i:TypeInfo}{zv:Va}(ho:o.op= .call {callee:= .builtin .append,args:=#[y,z],argTypes:=#[t,t]})(ht:P.underlying t=some (.slice e))(hi:P.info? e=some i)
  (hzv:i.zero=some zv) (hzs:zv.cells.size=i.size) (hsz:0<i.size) (hy:bK y=some y') (hz:bK z=some z') (p:exec Γ nid S (.cY false e i.size i.bytes y' z')=some (x,wr)):Good P E S a w o x wr:=by
 have ry:=h.ke hy;have rz:=h.ke hz
 have hexec:∀(r:Result Va),(Builtin.append_ #[t,t] o.type #[a.eval y,a.eval z]).run P w=r->(execOp a.eval o).run P w=r.andThen λv w'=> .ok (.value v) w':=by intro r U;simp[execOp,ho,resolve,invoke,builtin,U]
 simp only[exec,Nk]at p;split at p
 .rename_i d hnews;split at p
  .rename_i hall;have A:∀u∈d,u.length=i.size/\u.all PV.one=true:=λu H=>by have:=Qn.1 hall u H;simpa using this
   have hnl:d.flatten.length=d.length*i.size:=pa d i.size (λu H=>(A u H).1)
   have V:∀{vs:Z Va},bo w (bn E S L) (S.gh L) d.flatten vs->∀u∈vs,u.oneCell'=true:=by
    intro vs U u H;obtain⟨q,hq,rfl⟩:=List.mem_iff_getElem.1 H;have hx:q<d.flatten.length:=by rw[<-U.1];exact hq
    have hm:d.flatten[q]∈d.flatten:=QE hx
    let⟨el,hel,hmem⟩:=List.mem_flatten.1 hm
    exact((U.2 q _ _ (Qj hx) (Qj hq)).one (Qn.1 (A el hel).2 _ hmem)).1
   have T:∀(s:Nat) (hid:s<S.N) (es:Z (Z PV)) (m:Nat) (v:Va) (vs:Z Va),a.eval y=v->w.ownsRow (gE E v) e i.size v es.length vs->bo w (bn E S L) (S.gh L) es.flatten vs->
     (∀u∈es,u.length=i.size)->(S.H s).aw<m->(∀b,v.ownBlock=some b->(S.H s).c.live=true/\cq (L s)=some b)->es.length+d.length<=maxLen->(es.length+d.length)*i.bytes<=140737488355328->
     Good P E S a w o (.own s m) (some (s,⟨m,.row e i.size (es++d)⟩)):=by
    intro s hid es m v vs hv k U hk F W B N
    have hk2:∀u∈es++d,u.length=i.size:=λu H=>by
     rcases QA.1 H with H|H
     .exact hk u H
     .exact(A u H).1
    have hrun:∃v' w' us,(Builtin.append_ #[t,t] o.type #[a.eval y,a.eval z]).run P w= .ok v' w'/\w'.ownsRow (gE E v) e i.size v' (es.length+d.length) (vs++us)/\w.grownBy w' v.ownBlock/\
      (v'.ownBlock=v.ownBlock\/v'.ownBlock=some w.heap.size)/\bo w (bn E S L) (S.gh L) d.flatten us/\w.drawn<=w'.drawn:=by
     rcases h.Pn rz hnews with⟨X,I⟩|⟨ad,c,us,X,K,hcz⟩
     .subst I;refine⟨v,w,[],by rw[hv,X];exact Ol ht hi k 0,by simpa using k,World.grownBy.refl w _,.inl rfl,bo.nil,Qs _⟩
     .have hus:us.length=d.length*i.size:=by rw[K.1,hnl]
      let⟨v',w',h1,h2,h3,_,h5⟩:=qbP (P:=P) w (gE E v) t o.type e i zv i.size i.bytes ht hi hzv rfl rfl hzs hsz v es.length vs k ad d.length c us hus hcz (V K) B N (QJ (Sf E v) h.fr.size)
      exact⟨v',w',us,by rw[hv,X];exact h1,h2,h3,h5,K,GD w (gE E v) t o.type e i zv i.size i.bytes ht hi hzv rfl rfl hsz v es.length vs k ad d.length c us hus hcz (V K) B N h1⟩
    let⟨v',w',us,hr1,f,J,j,hru,hdrw⟩:=hrun
    have D:∃ad n c,v'= .slice ad n c:=by
     rcases f.2 with⟨rfl,_⟩|⟨g,cap,R,rfl,_⟩
     .exact⟨_,_,_,rfl⟩
     .exact⟨_,_,_,rfl⟩
    let⟨ad',n',c',D⟩:=D
    have hvb:∃ad n c,v= .slice ad n c:=by
     rcases k.2 with⟨rfl,_⟩|⟨g,cap,R,rfl,_⟩
     .exact⟨_,_,_,rfl⟩
     .exact⟨_,_,_,rfl⟩
    let⟨ad0,n0,c0,hv0⟩:=hvb
    have f:w'.ownsRow (gE E v') e i.size v' (es.length+d.length) (vs++us):=by
     rcases j with j|j
     .rw[Ek (v:=v') (v':=v) (by rw[<-pA D,<-pA hv0,j])]
      exact f
     .refine⟨f.1,?_⟩;rcases f.2 with I|⟨g,cap,R,e1,e2,e3⟩
      .exact .inl I
      .rw[pA D]at j;have hg:g=w.heap.size:=by rw[e1]at j;simpa[cq]using j
       refine .inr ⟨g,cap,R,e1,?_,e3⟩;rw[O0 j h.fr.size,hg];exact h.fr.size
    let⟨h2,hs2,hg2⟩:=h.xN (w':=w') (hdr:=DL.of hdrw) hid ⟨m,.row e i.size (es++d)⟩ v' (.inr F) J.os J.tape J.output J.size
     (λb l hne=>J.block b l (λeb=>by
      let⟨q1,q2⟩:=W b eb.symm
      exact hne q1 q2))
     (λb _ l=>by
      rw[<-pA D]at l;rcases j with j|j
      .rw[j]at l;exact .inl (W b l)
      .rw[j]at l;injection l with l
       exact .inr O)
     (λhs2 hg2=>⟨vs++us,by simpa using f,hk2,by simp[List.flatten_append];exact(U.append hru).mono hs2 hg2⟩)
    refine⟨_,w',_,v',by rw[hexec _ hr1];rfl,.inl rfl,?_,h2⟩
    subst D;exact .own _ _ _ _ _ hid (by simp[St.gh,St.fM,cJ]) (λ_=>by simp[St.gh,St.fM,cJ])
   split at p
   .rename_i ey;rw[ey]at ry;split at p
    .rename_i l;obtain⟨rfl,rfl⟩:=cd p;have:=T nid hn [] ((S.H nid).aw+1) (.slice none 0 0) [] ry.wc (World.ownsRow_nil w _ _ _) bo.nil t_ (qav _) (λb l=>by simp[Value.ownBlock]at l) (by simpa using l.2) (by simpa using l.1)
     simpa using this
    .cases p
   .rename_i id aw ey;rw[ey]at ry;split at p
    .rename_i F;split at p
     .rename_i e' k' es hc;split at p
      .rename_i l;obtain⟨rfl,rfl,N,B⟩:=l;obtain⟨rfl,rfl⟩:=cd p
       let⟨hN,hv⟩:=ry.pR (show(S.gh L).V id=aw from F)
       let⟨vs,k,hk,U⟩:=h.mR hN hc
       have hLs:∃ad n c,L id= .slice ad n c:=by
        rcases k.2 with⟨hL,_⟩|⟨g,cap,R,hL,_⟩
        .exact⟨_,_,_,hL⟩
        .exact⟨_,_,_,hL⟩
       let⟨ad0,n0,c0,hL0⟩:=hLs
       exact T id hN es (aw+1) (L id) vs hv k U hk O (λb l=>⟨by rw[hc];rfl,by rw[pA hL0]at l;exact l⟩) B N
      .cases p
     .cases p
    .cases p
   .cases p
  .cases p
 .cases p
def Uw(z:Array Va)(n:Nat):(Builtin.zeroCells z n).toList=(replicate n z.toList).flatten:=by
 unfold Builtin.zeroCells
 by_cases b:0<z.size
 .exact Mp z b n
 .have c:z.size=0:=O;have b:z=#[]:=qa2 c;subst b;simp
def ajp(h:Rel E S a w L){t e:TI}{y:Od}{y':bD}{i:TypeInfo}{d:Z PV}(ho:o.op= .call {callee:= .builtin .clear,args:=#[y],argTypes:=#[t]})(ht:P.underlying t=some (.slice e))(hi:P.info? e=some i)
  (hz:yM P e=some d) (hy:bK y=some y') (z:exec Γ nid S (.clear i.size d y')=some (x,wr)):Good P E S a w o x wr:=by
 have r:=h.ke hy;simp only[exec]at z;split at z
 case h_2=>cases z
 rename_i id aw k0 lo n e0;rw[e0]at r;split at z
 case isFalse=>cases z
 rename_i f;split at z
 case h_2=>cases z
 rename_i e1 k' es N;split at z
 case isFalse=>cases z
 rename_i hb;obtain⟨hk1,hk2,hk3,V⟩:=hb;subst hk2;subst hk1;obtain⟨rfl,rfl⟩:=cd z;obtain⟨hN,ad,c,hv,hat⟩:=r.CJ (show(S.gh L).V id=aw from f)
 have W:=h.Nx hN N hat;obtain⟨a0,m0,c0,hL,q1,q2,q3,q4⟩:=hat;have hL:L id= .slice a0 m0 c0:=hL;obtain⟨vs,s,hk,hr⟩:=h.mR hN N;obtain⟨i',v,B,hv0,hs,I⟩:=FM (P:=P) (w:=w) (M:=bn E S L) (G:=S.gh L) hz;rw[hi]at B;injection B with B
 subst B
 have hkz:∀u∈es.take lo++replicate n (d.map nz)++es.drop (lo+n),u.length=i.size:=by grind
 have hlz:(es.take lo++replicate n (d.map nz)++es.drop (lo+n)).length=es.length:=o_
 have hfl:(es.take lo++replicate n (d.map nz)++es.drop (lo+n)).flatten=es.flatten.take (lo*i.size)++(replicate n (d.map nz)).flatten++es.flatten.drop (lo*i.size+n*i.size):=by rw[List.flatten_append,List.flatten_append,yj i.size lo es hk,Cc i.size (lo+n) es hk,Q1]
 have hrn:bo w (bn E S L) (S.gh L) (replicate n (d.map nz)).flatten (replicate n v.cells.toList).flatten:=Ao I.nz n;have A:(replicate n v.cells.toList).flatten.length=n*i.size:=by rw[pa _ i.size (λu hu=>by rw[(List.mem_replicate.1 hu).2];simpa using hs)];simp
 by_cases hn0:n=0
 .subst hn0;have H:es.take lo++replicate 0 (d.map nz)++es.drop (lo+0)=es:=t_;rw[H]
  obtain⟨h2,k,X⟩:=h.xN (w':=w) hN ⟨aw,.row e1 i.size es⟩ (L id) (.inl ⟨f.symm,rfl,by rw[N];rfl⟩) rfl rfl rfl (Qs _)
   (λq F _=>rfl) (λq _ F=> .inl ⟨by rw[N];rfl,F⟩) (λk X=>⟨vs,s,hk,hr.mono k X⟩)
  refine⟨_,w,_,.tuple #[],?_,.inl rfl,.ff [] [] rfl (λj p u hp=>by simp at hp),h2⟩
  cases ad<;>simp[execOp,ho,resolve,invoke,builtin,Builtin.clear_,QP ht,hv]
 .rcases s.2 with⟨D,h0⟩|⟨g,cap,b,D,hb1,hh,hnc,hcm,K,htake⟩
  .omega
  rw[D]at hL;injection hL with e2 e3 e4
  subst e2 e3 e4;rcases q4 with q4|q4
  .omega
  have J:∀u∈(replicate n v.cells.toList).flatten,u.oneCell'=true:=by
   intro u hu;obtain⟨l,hl,R⟩:=List.mem_flatten.1 hu;rw[(List.mem_replicate.1 hl).2]at R;obtain⟨q,F,rfl⟩:=List.mem_iff_getElem.1 R;have hx:q<d.length:=by rw[<-I.1];exact F
   exact((I.2 q _ _ (Qj hx) (Qj F)).one (Qn.1 V _ (QE hx))).1
  have hcl:lo*i.size+n*i.size<=b.size:=by rw[K,<-Q1];exact Q2 _ O
  have T:=qbN (P:=P) g (lo*i.size) e1 (replicate n v.cells.toList).flatten 0 b w hh (by rw[A];omega) J
  simp only[qbe,A]at T;have hz0:(Builtin.zeroCells v.cells n).toList=(replicate n v.cells.toList).flatten:=Uw _ _
  have U:(w.setRow g (b.toList.take (lo*i.size)++(replicate n v.cells.toList).flatten++b.toList.drop (lo*i.size+n*i.size)).toArray).ownsRow (gE E (L id)) e1 i.size (L id) (es.take lo++replicate n (d.map nz)++es.drop (lo+n)).length (vs.take (lo*i.size)++(replicate n v.cells.toList).flatten++vs.drop (lo*i.size+n*i.size)):=by
   have hvl:vs.length=es.length*i.size:=s.1;have hle:lo*i.size+n*i.size<=es.length*i.size:=by rw[<-Q1];exact Q2 _ W
   rw[hlz]
   refine⟨by simp only[QM,List.length_take,List.length_drop,A,hvl];omega,.inr ⟨g,cap,_,D,hb1,qaV w g b _ e1 _ hh,hnc,hcm,by
    rw[K]at hcl;simp only[List.size_toArray,QM,List.length_take,List.length_drop,qar,A,K]
    omega,?_⟩⟩
   grind [OY]
  obtain⟨h2,k,X⟩:=h.xN (w':=w.setRow g (b.toList.take (lo*i.size)++(replicate n v.cells.toList).flatten++b.toList.drop (lo*i.size+n*i.size)).toArray) hN
   ⟨aw,.row e1 i.size (es.take lo++replicate n (d.map nz)++es.drop (lo+n))⟩ (L id) (.inl ⟨f.symm,rfl,by rw[N];rfl⟩) rfl rfl rfl t_
   (λq F hne=>qbO w g q _ (λek=>hne (by rw[N];rfl) (by rw[D,ek];rfl)))
   (λq _ F=> .inl ⟨by rw[N];rfl,F⟩)
   (λk X=>⟨_,U,hkz,by
    rw[hfl];have h5:=(((hr.take (lo*i.size)).append hrn).append (hr.drop (lo*i.size+n*i.size))).mono k X
    exact h5⟩)
  refine⟨_,_,_,.tuple #[],?_,.inl rfl,.ff [] [] rfl (λj p u hp=>by simp at hp),h2⟩
  have hv':a.eval y= .slice (some ⟨g,lo*i.size,none⟩) n c:=by rw[hv,q4];simp[add_mid]
  have hnn:∃m,n=m+1:=⟨n - 1,O⟩;obtain⟨m,rfl⟩:=hnn;simp[execOp,ho,resolve,invoke,builtin,Builtin.clear_,QP ht,hv',zeroValue,typeInfo,hi,hv0,hz0,T]
def An{P:Pr}(w:Wo)(s u ty b:TI)(g o e l:Nat)(a:Addr)(d f:Nat)(c:Array Va)(t:TI)(cs:Z Va)(size n:Nat)
  (y:P.underlying s=some (.slice b)) (hs:(P.info? b).map (·.size)=some size)
  (A:w.heap[g]?=some (.cells c t (0,0))) (z:n=Nat.min d e) (q:cs.length=n*size)
  (h:∀(j:Nat) (v:Va),cs[j]?=some v->w.cell? (a.add j)=some v) (k:o+cs.length<=c.size) (B:∀v∈cs,v.oneCell'=true):
  (Builtin.copy_ #[s,u] ty #[.slice (some ⟨g,o,none⟩) e l,.slice (some a) d f]).run P w=
   .ok (goInt n) (w.setRow g (c.toList.take o++cs++c.toList.drop (o+cs.length)).toArray):=by
 have r:=run_loadCells_list (P:=P) w a cs h;have m:=qbN P g o t cs 0 c w A (by simpa using k) B
 rw[q]at r
 cases p:P.info? b with
 |none=>simp[p]at hs
 |some i=>
  have hi:i.size=size:=by simpa[p]using hs
  simp[Builtin.copy_,QP y,Builtin.lenOf,Builtin.firstCells,sizeOf,typeInfo,p,hi,<-z,r,m]
def abF(h:Rel E S a w L){neg:Bool}{t t2 e:TI}{y:Od}{i:bD}(g:o.op= .binOp (if neg then .neq else .eql) t y (.const (.slice none 0 0)) t2)(p:P.underlying t=some (.slice e))(m:bK y=some i)
  (f:exec Γ nid S (.B6 neg i)=some (x,wr)):Good P E S a w o x wr:=by
 have r:=h.ke m
 have b:∀(ad:Y Addr) (n c:Nat),a.eval y= .slice ad n c->(execOp a.eval o).run P w= .ok (.value (.bool (xor neg ad.isNone))) w:=by
  intro ad n c hv;have l:a.eval (.const (.slice none 0 0))= .slice none 0 0:=rfl;have j:=run_equal_slice_nil (P:=P) w t e ad n c p;have k:∀op,(eqGuard op t y (.const (.slice none 0 0)) (.slice ad n c) (.slice none 0 0)).run P w= .ok () w:=by intro op;cases op<;>simp[eqGuard]
  cases neg
  .simp[QB,Qx]at g;simp only[execOp,g,hv,l,QY,k,qac,binOp,j,qaj];simp
  .simp[Qr]at g;simp only[execOp,g,hv,l,QY,k,qac,binOp,j,qaj];simp
 simp[exec]at f;split at f
 .rename_i s;rw[s]at r;obtain⟨rfl,rfl⟩:=cd f;exact Good.pure h (b none 0 0 r.wc) (by cases neg<;>exact .bool _)
 .split at f
  .rename_i d;obtain⟨rfl,rfl⟩:=cd f
   let⟨ad,c,hv⟩:=h.ZE r d
   exact Good.pure h (b ad _ c hv) (.iD _)
  .rename_i u us d;obtain⟨rfl,rfl⟩:=cd f;rcases h.Pn r d with⟨_,q⟩|⟨ad,c,vs,hv,_⟩
   .cases q
   .exact Good.pure h (b (some ad) _ c hv) (by cases neg<;>exact .bool _)
  .cases f
end
end
section
open Go.RowKit
section
variable{P:Pr}{E:En}{S:St}{a:Act}{w:Wo}{L:Nat->Va}{o:Oper}{x:PV}{wr:Y (Nat×gU)}{Γ:sF}{nid:Nat}
def acn{t:TI}{fs:Array Field}{f g:Field}{y k:IntKind}{p q:Int}{s u:C}(z:P.underlying t=some (.struct fs))(m:fs.toList=[f,g])(B:P.underlying f.type=some (.int y))(A:P.underlying g.type=some .string)
  (D:f.offset=0) (H:g.offset=1) (c:f.name≠ "_") (j:g.name≠ "_") (i:P.stoodInHeld t=false) (d:Nat):
  (Op.equalIn (d+2) t (.agg #[.int k p,.string s]) (.agg #[.int k q,.string u])).run P w= .ok (decide (p=q)&&decide (s=u)) w:=by
 have e:P.fieldsOf t=fs:=by simp[Program.fieldsOf,z]
 have l:(isAgg f.type).run P w= .ok false w:=by simp[isAgg,QP B]
 have hi1:(isAgg g.type).run P w= .ok false w:=by simp[isAgg,QP A]
 have r:∀v u:Va,(part f.type #[v,u] 0).run P w= .ok v w:=λv u=>by simp[part,l]
 have F:∀v u:Va,(part g.type #[v,u] 1).run P w= .ok u w:=λv u=>by simp[part,hi1]
 rw[run_equalIn_struct w (d+1) t _ _ (by rw[e];exact z) i,e,m]
 have q0:=run_equalIn_int (P:=P) w d f.type k y p q B;have q1:=run_equalIn_string (P:=P) w d g.type s u A;rw[toList_eq_iff]at q1
 by_cases b:p=q
 .subst b;simp[Op.eqFields,c,j,D,H,r,F,q0,q1]
  by_cases h:s=u<;>simp[h]
 .have:(p==q)=false:=by simp[b]
  rw[this]at q0;simp[Op.eqFields,c,D,r,q0,b]
def ahQ(h:Rel E S a w L){neg:Bool}{y z:Od}{g f:bD}{t t2:TI}(d:o.op= .binOp (if neg then .neq else .eql) t y z t2)(r:P.underlying t=some .bool)
  (m:bK y=some g) (l:bK z=some f) (e:exec Γ nid S (.M5 neg g f)=some (x,wr)):Good P E S a w o x wr:=by
 have j:=h.ke m;have i:=h.ke l;simp only[exec]at e;split at e
 .rename_i p q A u;obtain⟨rfl,rfl⟩:=cd e;rw[A]at j;rw[u]at i;have hv:=j.qC;have k:=i.qC;have s:(p==q)=decide (p=q):=by cases p<;>cases q<;>rfl
  have b:=run_equalIn_bool (P:=P) w 9999 t p q r;rw[s]at b;have c:∀op,(eqGuard op t y z (.bool p) (.bool q)).run P w= .ok () w:=by intro op;cases op<;>simp[eqGuard]
  refine Good.pure h (v:= .bool (xor neg (decide (p=q)))) ?_ (.bool _);cases neg
  .simp only[QB,Qx]at d;simp only[execOp,d,hv,k,QY,c,qac,binOp,Op.equal,Op.maxDepth,qaj];rw[b];simp
  .simp only[Qr]at d;simp only[execOp,d,hv,k,QY,c,qac,binOp,Op.equal,Op.maxDepth,qaj];rw[b];simp
 .cases e
def ahR(h:Rel E S a w L){neg:Bool}{y z:Od}{F D:bD}{t t2:TI}{J:Array Field}{f g:Field}{W:IntKind}(j:o.op= .binOp (if neg then .neq else .eql) t y z t2)(ht:P.underlying t=some (.struct J))(B:J.toList=[f,g])
  (hf:P.underlying f.type=some (.int W)) (hg:P.underlying g.type=some .string) (h0:f.offset=0) (h1:g.offset=1) (r:f.name≠ "_") (m:g.name≠ "_") (l:P.stoodInHeld t=false) (A:P.eqGuardType P.depth t=false)
  (hy:bK y=some F) (X:bK z=some D) (d:exec Γ nid S (.nF neg F D)=some (x,wr)):Good P E S a w o x wr:=by
 have I:=h.ke hy;have H:=h.ke X;simp only[exec]at d;split at d
 .rename_i k p s k' q u e1 e2;split at d
  .rename_i hk;subst hk;obtain⟨rfl,rfl⟩:=cd d;rw[e1]at I;rw[e2]at H;obtain⟨vs,hv,e⟩:=I.vr;obtain⟨us,hu,b⟩:=H.vr;obtain⟨v1,N,rfl,r1,e⟩:=e.cons_inv;obtain⟨v2,K,rfl,r2,e⟩:=e.cons_inv;have:=e.vi;subst this;obtain⟨u1,T,rfl,V,b⟩:=b.cons_inv;obtain⟨u2,R,rfl,U,b⟩:=b.cons_inv;have:=b.vi;subst this;have:=r1.jT;subst this;have:=r2.CL;subst this;have:=V.jT;subst this;have:=U.CL;subst this;have c:=acn (P:=P) (w:=w) (k:=k) (p:=p) (q:=q) (s:=s) (u:=u) ht B hf hg h0 h1 r m l 9998
   have i:∀op,(eqGuard op t y z (.agg [.int k p,.string s].toArray) (.agg [.int k q,.string u].toArray)).run P w= .ok () w:=by intro op;cases op<;>simp[eqGuard,program,Sem.run,A]
   refine Good.pure h (v:= .bool (xor neg (decide (p=q)&&decide (s=u)))) ?_ (.bool _);cases neg
   .simp only[QB,Qx]at j;simp only[execOp,j,hv,hu,QY,i,qac,binOp,Op.equal,Op.maxDepth,qaj];rw[c];simp
   .simp only[Qr]at j;simp only[execOp,j,hv,hu,QY,i,qac,binOp,Op.equal,Op.maxDepth,qaj];rw[c];simp
  .cases d
 .cases d
def Ig:∀(ks c:Z LK) (cs d:Z PV) (b:Bool),pD (ks++c) cs d=some b->
  ∃b1 e,pD ks (cs.take ks.length) (d.take ks.length)=some b1/\pD c (cs.drop ks.length) (d.drop ks.length)=some e/\b=(b1&&e)
 |[],c,cs,d,b,h=>⟨true,b,by simp[pD],by simpa using h,t_⟩
 |k::ks,c,cs,d,b,h=>by
  cases k<;>cases cs<;>cases d<;>simp only[List.cons_append,pD]at h<;>try (cases h;done)
  all_goals rename_i x cs y d
  all_goals cases x<;>cases y<;>simp only[pD]at h<;>try (cases h;done)
  .split at h
   .rename_i i;simp only[Qq]at h;obtain⟨r,f,rfl⟩:=h;obtain⟨b1,e,h1,g,rfl⟩:=Ig ks c cs d r f;refine⟨_,e,?_,g,(Bool.and_assoc _ _ _).symm⟩;simp only[QN,List.take_succ_cons,pD,Qe i,h1,Qo]
   .cases h
  all_goals
   simp only[Qq]at h;obtain⟨r,f,rfl⟩:=h;obtain⟨b1,e,h1,g,rfl⟩:=Ig ks c cs d r f;refine⟨_,e,?_,g,(Bool.and_assoc _ _ _).symm⟩;simp only[QN,List.take_succ_cons,pD,h1,Qo]
def Rx:∀(ks:Z LK) (cs c:Z PV) (b:Bool),pD ks cs c=some b->cs.length=ks.length/\c.length=ks.length
 |[],cs,c,b,h=>by cases cs<;>cases c<;>simp[pD]at h<;>simp
 |k::ks,cs,c,b,h=>by
  cases k<;>cases cs<;>cases c<;>(try simp only[pD]at h)<;>try (cases h;done)
  all_goals rename_i x cs y c
  all_goals cases x<;>cases y<;>simp only[pD]at h<;>try (cases h;done)
  .split at h
   .simp only[Qq]at h;obtain⟨r,d,rfl⟩:=h;have:=Rx ks cs c r d;simp[this.1,this.2]
   .cases h
  all_goals
   simp only[Qq]at h;obtain⟨r,d,rfl⟩:=h;have:=Rx ks cs c r d;simp[this.1,this.2]
def valOf(P:Pr)(t:TI)(vs:Z Va):Va:=
 match P.underlying t with
 |some (.struct _)=> .agg vs.toArray
 |_=>vs.headD undef
def TY{d:Nat}{t:TI}{ks:Z LK}(h:C9 P (d+1) t=some ks):
  (∃k,P.underlying t=some (.int k)/\ks=[.i])\/(P.underlying t=some .string/\ks=[.s])\/(P.underlying t=some .bool/\ks=[.b])\/∃c,P.underlying t=some (.struct c)/\P.stoodInHeld t=false/\Vs P (C9 P d) c.toList 0=some ks:=by
 rw[C9]at h;split at h
 .rename_i k b;injection h with h;exact .inl ⟨k,b,h.symm⟩
 .rename_i b;injection h with h;exact .inr (.inl ⟨b,h.symm⟩)
 .rename_i b;injection h with h;exact .inr (.inr (.inl ⟨b,h.symm⟩))
 .rename_i c b;split at h
  .rename_i hs;exact .inr (.inr (.inr ⟨c,b,hs,h⟩))
  .cases h
 .cases h
def Sa{t:TI}{d off:Nat}{ks:Z LK}{i:TypeInfo}{vs:Z Va}(h:C9 P d t=some ks)(hi:P.info? t=some i)(m:i.size=ks.length)(l:off+ks.length<=vs.length):
  (part t vs.toArray off).run P w= .ok (valOf P t ((vs.drop off).take ks.length)) w:=by
 cases d with
 |zero=>simp[C9]at h
 |succ d=>
  have leaf:(∀b,P.underlying t≠some (.struct b))->(isAgg t).run P w= .ok false w->ks.length=1->(part t vs.toArray off).run P w= .ok (valOf P t ((vs.drop off).take ks.length)) w:=by
   intro f j p;have c:off<vs.length:=O
   have hv:valOf P t ((vs.drop off).take ks.length)=vs[off]:=by
    unfold valOf;split
    .rename_i b g;exact absurd g (f b)
    .rw[p,QQ c];rfl
   rw[hv];simp[part,j,c]
  rcases TY h with⟨k,hu,rfl⟩|⟨hu,rfl⟩|⟨hu,rfl⟩|⟨b,hu,_,_⟩
  .exact leaf (λb e=>by rw[hu]at e;cases e) (by simp[isAgg,QP hu]) rfl
  .exact leaf (λb e=>by rw[hu]at e;cases e) (by simp[isAgg,QP hu]) rfl
  .exact leaf (λb e=>by rw[hu]at e;cases e) (by simp[isAgg,QP hu]) rfl
  .have j:(isAgg t).run P w= .ok true w:=by simp[isAgg,QP hu]
   have hv:valOf P t ((vs.drop off).take ks.length)= .agg ((vs.drop off).take ks.length).toArray:=by unfold valOf;rw[hu]
   rw[hv];simp[part,j,sizeOf,typeInfo,hi,m,List.extract]
def afW{M:Nat->Prop}{G:Gh}{d e:Nat}(H:∀(t:TI) (ks:Z LK) (cs k:Z PV) (b:Bool) (vs us:Z Va),C9 P d t=some ks->pD ks cs k=some b->bo w M G cs vs->bo w M G k us->(Op.equalIn e t (valOf P t vs) (valOf P t us)).run P w= .ok b w):
  ∀(q:Z Field) (ks:Z LK) (off:Nat) (cs k:Z PV) (b:Bool) (vs us:Z Va),Vs P (C9 P d) q off=some ks->cs.length=off+ks.length->k.length=off+ks.length->pD ks (cs.drop off) (k.drop off)=some b->bo w M G cs vs->bo w M G k us->(Op.eqFields e vs.toArray us.toArray q).run P w= .ok b w:=by
 intro q
 induction q with
 |nil=>
  intro ks off cs k b vs us h y u p r j;simp only[Vs,Qk]at h;subst h;rw[List.drop_eq_nil_of_le (by simpa using qaU y),List.drop_eq_nil_of_le (by simpa using qaU u)]at p
  simp only[pD,Qk]at p;subst p;simp[Op.eqFields]
 |cons f q F=>
  intro ks off cs k b vs us h y u p r j;rw[Vs]at h;split at h
  .rename_i c;obtain⟨c,g⟩:=c;split at h
   .rename_i k1 i l hi;split at h
    .rename_i m;simp only[Qq]at h;obtain⟨D,s,rfl⟩:=h;rw[QM]at y u;obtain⟨b1,I,h1,z,rfl⟩:=Ig k1 D _ _ b p;rw[List.drop_drop]at z;rw[List.drop_drop]at z;have B:(part f.type vs.toArray f.offset).run P w=_:=Sa (w:=w) l hi m (by rw[g,r.1];omega)
     have A:(part f.type us.toArray f.offset).run P w=_:=Sa (w:=w) l hi m (by rw[g,j.1];omega)
     have q1:=H f.type k1 _ _ b1 _ _ l h1 ((r.drop off).take k1.length) ((j.drop off).take k1.length);rw[<-g]at q1;have q2:=F D (off+k1.length) cs k I vs us s O O z r j
     cases b1 with
     |false=>simp[Op.eqFields,c,B,A,q1]
     |true=>simp[Op.eqFields,c,B,A,q1,q2]
    .cases h
   .cases h
  .cases h
def X5{M:Nat->Prop}{G:Gh}:∀(d:Nat) (t:TI) (ks:Z LK) (e:Nat) (cs g:Z PV) (b:Bool) (vs us:Z Va),C9 P d t=some ks->d<=e->pD ks cs g=some b->bo w M G cs vs->bo w M G g us->(Op.equalIn e t (valOf P t vs) (valOf P t us)).run P w= .ok b w
 |0=>λt ks e cs g b vs us h=>by simp[C9]at h
 |d+1=>by
  have U:=X5 (M:=M) (G:=G) d;intro t ks e cs g b vs us h he f H j
  .obtain⟨e,rfl⟩:∃e',e=e'+1:=⟨e - 1,O⟩;obtain⟨z,y⟩:=Rx _ _ _ _ f
   have one:∀{x:LK},ks=[x]->∃p q v u,cs=[p]/\g=[q]/\vs=[v]/\us=[u]/\bp w M G p v/\bp w M G q u:=by intro x R;subst R;have F:∃p,cs=[p]:=List.length_eq_one_iff.1 z;have D:∃p,g=[p]:=List.length_eq_one_iff.1 y;obtain⟨p,rfl⟩:=F;obtain⟨q,rfl⟩:=D;obtain⟨v,I,rfl,r1,r2⟩:=H.cons_inv;obtain⟨u,J,rfl,N,K⟩:=j.cons_inv;have e1:=r2.vi;have X:=K.vi;subst e1 X;exact⟨p,q,v,u,rfl,rfl,rfl,rfl,r1,N⟩
   have c:∀l:Z Va,(∀fs,P.underlying t≠some (.struct fs))->valOf P t l=l.headD undef:=by
    intro l s;unfold valOf;split
    .rename_i fs B;exact absurd B (s fs)
    .rfl
   rcases TY h with⟨k,hu,hk⟩|⟨hu,hk⟩|⟨hu,hk⟩|⟨fs,hu,r,T⟩
   .obtain⟨p,q,v,u,rfl,rfl,rfl,rfl,r1,r2⟩:=one hk;subst hk;rw[c _ (λfs e=>by rw[hu]at e;cases e),c _ (λfs e=>by rw[hu]at e;cases e)]
    cases p<;>cases q<;>simp only[pD]at f<;>try (cases f;done)
    split at f
    .rename_i A;subst A;simp only[Qo,Qk,qaw]at f;subst f;have:=r1.jT;subst this;have:=r2.jT;subst this;rename_i k1 i b1;exact run_equalIn_int w e t _ k i b1 hu
    .cases f
   .obtain⟨p,q,v,u,rfl,rfl,rfl,rfl,r1,r2⟩:=one hk;subst hk;rw[c _ (λfs e=>by rw[hu]at e;cases e),c _ (λfs e=>by rw[hu]at e;cases e)]
    cases p<;>cases q<;>simp only[pD]at f<;>try (cases f;done)
    simp only[Qo,Qk,qaw]at f;subst f;have:=r1.CL;subst this;have:=r2.CL;subst this;rename_i i b1;have:=run_equalIn_string (P:=P) w e t i b1 hu;rw[toList_eq_iff]at this;exact this
   .obtain⟨p,q,v,u,rfl,rfl,rfl,rfl,r1,r2⟩:=one hk;subst hk;rw[c _ (λfs e=>by rw[hu]at e;cases e),c _ (λfs e=>by rw[hu]at e;cases e)]
    cases p<;>cases q<;>simp only[pD]at f<;>try (cases f;done)
    simp only[Qo,Qk,qaw]at f;subst f;have:=r1.qC;subst this;have:=r2.qC;subst this;rename_i i b1;have:=run_equalIn_bool (P:=P) w e t i b1 hu;rw[show(i==b1)=decide (i=b1)by cases i<;>cases b1<;>rfl]at this
    exact this
   .have hv:∀l:Z Va,valOf P t l= .agg l.toArray:=λl=>by unfold valOf;rw[hu]
    have m:P.fieldsOf t=fs:=by simp[Program.fieldsOf,hu]
    rw[hv,hv,run_equalIn_struct w e t _ _ (by rw[m];exact hu) r,m]
    exact afW (λt ks cs g b vs us F D W V=>U t ks e cs g b vs us F O D W V) fs.toList ks 0 cs g b vs us T O O (by simpa using f) H j
def XN(h:Rel E S a w L){neg:Bool}{ks:Z LK}{y z:Od}{m k:bD}{t t2:TI}{H:Array Field}(g:o.op= .binOp (if neg then .neq else .eql) t y z t2)(u:P.underlying t=some (.struct H))(B:C9 P 64 t=some ks)
  (j:P.eqGuardType P.depth t=false) (s:bK y=some m) (r:bK z=some k) (e:exec Γ nid S (.I6 neg ks m k)=some (x,wr)):Good P E S a w o x wr:=by
 have q:=h.ke s;have p:=h.ke r;simp only[exec]at e;split at e
 .rename_i cs K J I;simp only[Qq]at e;obtain⟨b,D,e⟩:=e;injection e with h1 F
  subst h1 F;rw[J]at q;rw[I]at p;obtain⟨vs,hv,A⟩:=q.vr;obtain⟨us,hu,i⟩:=p.vr;have d:∀l:Z Va,valOf P t l= .agg l.toArray:=λl=>by unfold valOf;rw[u]
  have c:=X5 (P:=P) (w:=w) 64 t ks 10000 cs K b vs us B O D A i;rw[d,d]at c
  have f:∀op,(eqGuard op t y z (.agg vs.toArray) (.agg us.toArray)).run P w= .ok () w:=by intro op;cases op<;>simp[eqGuard,program,Sem.run,j]
  refine Good.pure h (v:= .bool (xor neg b)) ?_ (.bool _);cases neg
  .simp only[QB,Qx]at g;simp only[execOp,g,hv,hu,QY,f,qac,binOp,Op.equal,Op.maxDepth,qaj];rw[c];simp
  .simp only[Qr]at g;simp only[execOp,g,hv,hu,QY,f,qac,binOp,Op.equal,Op.maxDepth,qaj];rw[c];simp
 .cases e
def bp.closed{M M':Nat->Prop}{G G':Gh}{y:PV}{v:Va}(t:y.closed=true)(q:∀b,M' b->M b)(h:bp w M G y v):bp w M' G' y v:=by
 have hs:dp w w M M':=(dp.of λ_ r=>λl=>r (q _ l))
 cases h with
 |any|undef|kP|agg|ff|ptr|own|fK|view=>simp[PV.closed]at t
 |int=>exact .int _ _
 |bool=>exact .bool _
 |iD=>first|exact .iD _|simp[PV.closed]at t
 |str=>exact .str _
 |nj=>exact .nj
 |eV=>exact .eV
 |bJ f cs vs m h=>
  cases cs with
  |nil=>exact .bJ f [] vs m (λi x v A _=>by simp at A)
  |cons=>simp[PV.closed]at t
 |ref cs ad vs m d h=>exact .ref cs ad vs m (λi u g=>⟨(d i u g).1,λl=>(d i u g).2 (q _ l)⟩) (λi p u j g=>(h i p u j g).mono hs (Gh.le.refl _))
 |sl es ad c k vs hk m d h B r=>exact .sl es ad c k vs hk m (λi u g=>⟨(d i u g).1,λl=>(d i u g).2 (q _ l)⟩) (λi p u j g=>(h i p u j g).mono hs (Gh.le.refl _)) B r
 |slnil=>exact .slnil
 |og ks us b es H D z hk hv h1 F=>exact .og ks us b es H D (λl=>z (q _ l)) hk hv (λi p e j s=>(h1 i p e j s).mono hs (Gh.le.refl _)) (λi p e j s=>(F i p e j s).mono hs (Gh.le.refl _))
def bo.closed{M M':Nat->Prop}{G G':Gh}{c:Z PV}{vs:Z Va}(e:c.all PV.closed=true)(f:∀b,M' b->M b)(h:bo w M G c vs):bo w M' G' c vs:=
 ⟨h.1,λi y v d hv=>(h.2 i y v d hv).closed (Qn.1 e y (QL d)) f⟩
def bp.bP{M M':Nat->Prop}{G G':Gh}{y:PV}{v:Va}(d:y.bP=true)(e:∀b,M' b->M b)(h:bp w M G y v):bp w M' G' y v:=by
 cases y with
 |agg cs=>cases h with|agg _ vs c h=>have:=bo.closed (G':=G') (by simpa[PV.bP]using d) e ⟨c,h⟩;exact .agg cs vs this.1 this.2
 |ff cs=>cases h with|ff _ vs c h=>have:=bo.closed (G':=G') (by simpa[PV.bP]using d) e ⟨c,h⟩;exact .ff cs vs this.1 this.2
 |bJ f cs=>cases h with|bJ _ _ vs c h=>have:=bo.closed (G':=G') (by simpa[PV.bP]using d) e ⟨c,h⟩;exact .bJ f cs vs this.1 this.2
 |_=>exact h.closed (by simpa[PV.bP]using d) e
def bp.yZ{M M':Nat->Prop}{G G':Gh}{y:PV}{v:Va}(d:y.yZ=true)(e:∀b,M' b->M b)(h:bp w M G y v):bp w M' G' y v:=by
 cases y with
 |ff cs=>cases h with|ff _ vs f h=>exact .ff cs vs f λi y v c hv=>(h i y v c hv).bP (Qn.1 (show cs.all PV.bP=true from d) y (QL c)) e
 |_=>exact h.bP d e
def bp.tG{w':Wo}{M M':Nat->Prop}{G G':Gh}{y:PV}{v:Va}(b:y.tG=true)(h:bp w M G y v):bp w' M' G' y v:=by
 have go:∀{cs:Z PV} {vs:Z Va},cs.all PV.plain=true->bo w M G cs vs->bo w' M' G' cs vs:=λb h=>⟨h.1,λi y v c hv=>(h.2 i y v c hv).plain (Qn.1 b y (QL c))⟩
 cases y with
 |agg cs=>cases h with|agg _ vs d h=>have:=go (by simpa[PV.tG]using b) ⟨d,h⟩;exact .agg cs vs this.1 this.2
 |_=>exact h.plain (by simpa[PV.tG]using b)
def bp.xU{w':Wo}{M M':Nat->Prop}{G G':Gh}{y:PV}{v:Va}(c:y.xU=true)(h:bp w M G y v):bp w' M' G' y v:=by
 cases y with
 |ff cs=>cases h with|ff _ vs d h=>exact .ff cs vs d λi y v b hv=>(h i y v b hv).tG (Qn.1 (show cs.all PV.tG=true from c) y (QL b))
 |_=>exact h.tG c
def bo.plain{w':Wo}{M M':Nat->Prop}{G G':Gh}{b:Z PV}{vs:Z Va}(d:b.all PV.plain=true)(h:bo w M G b vs):bo w' M' G' b vs:=
 ⟨h.1,λi y v c hv=>(h.2 i y v c hv).plain (Qn.1 d y (QL c))⟩
def Au{H:Nat->gU}{ex:Y Nat}{M M':Nat->Prop}{G:Gh}{y:PV}{v:Va}(d:y.closed=true)(e:∀b,M' b->M b)(h:bp w M G y v)(n:Nat):bp w M' dz (fz H ex n y) v:=by
 have c:y= .eV\/fz H ex n y=y:=by
  cases y with
  |bJ f cs=>
   cases cs with
   |nil=>right;cases n<;>simp[fz,PV.closed]
   |cons=>simp[PV.closed]at d
  |_=>first|exact .inl rfl|(right;cases n<;>simp_all [fz,PV.closed])|(simp[PV.closed]at d;done)
 rcases c with rfl|c
 .have:=h.wc;subst this;cases n<;>exact .slnil
 .rw[c];exact h.closed d e
def Vo{H:Nat->gU}{ex:Y Nat}{M M':Nat->Prop}{G:Gh}{y:PV}{v:Va}(d:y.bP=true)(j:∀b,M' b->M b)(h:bp w M G y v)(n:Nat):bp w M' dz (fz H ex (n+1) y) v:=by
 have go:∀{cs:Z PV} {vs:Z Va},cs.all PV.closed=true->bo w M G cs vs->bo w M' dz (cs.map (fz H ex n)) vs:=λd c=>
  ⟨by simp[c.1],λi p u g k=>by
   rw[QG,Qq]at g;obtain⟨q,e,rfl⟩:=g
   exact Au (Qn.1 d q (QL e)) j (c.2 i q u e k) n⟩
 cases y with
 |agg cs=>obtain⟨vs,rfl,c⟩:=h.vr;have:=go (by simpa[PV.bP]using d) c;simp only[fz];exact .agg _ _ this.1 this.2
 |ff cs=>obtain⟨vs,rfl,c⟩:=h.Is;have:=go (by simpa[PV.bP]using d) c;simp only[fz];exact .ff _ _ this.1 this.2
 |bJ f cs=>obtain⟨vs,rfl,c⟩:=h.za;have:=go (by simpa[PV.bP]using d) c;simp only[fz];exact .bJ _ _ _ this.1 this.2
 |_=>exact Au (by simpa[PV.bP]using d) j h (n+1)
theorem Rel.fz(h:Rel E S a w L){ex:Y Nat}{M:Nat->Prop}(H:∀b,M b->bn E S L b)(I:∀id b,id<S.N->(S.H id).c.live=true->some id≠ex->cq (L id)=some b->¬M b):
  ∀(n:Nat) {y:PV} {v:Va},bp w (bn E S L) (S.gh L) y v->bp w M dz (fz S.H ex n y) v
 |0,y,v,r=>by
  cases s:y.closed with
  |true=>exact Au s H r 0
  |false=>
   have:TQ.fz S.H ex 0 y= .any:=by cases y<;>simp_all [TQ.fz,PV.closed]
   rw[this];exact .any _
 |n+1,y,v,r=>by
  have X:=λ{y:PV} {v:Va} (r:bp w (bn E S L) (S.gh L) y v)=>h.fz H I n r
  have l:∀{cs:Z PV} {vs:Z Va},bo w (bn E S L) (S.gh L) cs vs->bo w M dz (cs.map (TQ.fz S.H ex n)) vs:=λj=>
   ⟨by simp[j.1],λi p u V A=>by
    rw[QG,Qq]at V;obtain⟨q,J,rfl⟩:=V
    exact X (j.2 i q u J A)⟩
  cases y with
  |own id aw=>
   simp only[TQ.fz];split
   .exact .any _
   .rename_i m;have c:some id≠ex/\(S.H id).aw=aw:=⟨λe=>m (.inl e),qbf.1 λe=>m (.inr e)⟩
    split
    .rename_i e k es s;obtain⟨F,hv⟩:=r.pR (show(S.gh L).V id=aw from c.2)
     obtain⟨vs,t,hk,j⟩:=h.mR F s;rw[hv,show(S.gh L).L id=L id from rfl]
     have N:(es.map λe=>e.map (TQ.fz S.H ex n)).flatten=es.flatten.map (TQ.fz S.H ex n):=by rw[List.map_flatten]
     rcases t.2 with⟨z,h0⟩|⟨g,cap,U,z,_,W,K,R,_⟩
     .have:es=[]:=qaz h0;subst this;rw[z];exact .slnil
     .rw[z];have d:=l j;rw[<-N]at d;have D:es.length=(es.map λe=>e.map (TQ.fz S.H ex n)).length:=t_
      rw[D];refine .sl _ _ _ k vs (λu A=> ?_) d.1 (λi u A=>⟨t.cells (g:=g) (by rw[z];rfl) i u A,I id g F (by rw[s];rfl) c.1 (by rw[z];rfl)⟩) d.2 (by simpa using K) R
      obtain⟨q,J,rfl⟩:=QO.1 A;simpa using hk q J
    .exact .any _
  |ptr id aw off=>
   simp only[TQ.fz];split
   .exact .any _
   .rename_i m;have c:some id≠ex/\(S.H id).aw=aw:=⟨λe=>m (.inl e),qbf.1 λe=>m (.inr e)⟩
    split
    .rename_i cs s;obtain⟨F,_⟩:=r.rQ (show(S.gh L).V id=aw from c.2)
     obtain⟨b,hv,z⟩:=h.xT r c.2 s;obtain⟨b',U,T,B,W,j,_⟩:=h.tV F s;rw[z]at B;simp only[Value.pointer.injEq,Qk,qa4]at B;obtain⟨rfl,_⟩:=B;rw[hv];have d:=(l j).drop off;exact .ref _ _ _ d.1 (λi u A=>⟨by rw[add_mid];exact tU W (iM A),I id b F (by rw[s];rfl) c.1 (by rw[z];rfl)⟩) d.2
    .exact .any _
  |agg cs=>obtain⟨vs,rfl,j⟩:=r.vr;have:=l j;exact .agg _ _ this.1 this.2
  |ff cs=>obtain⟨vs,rfl,j⟩:=r.Is;have:=l j;exact .ff _ _ this.1 this.2
  |bJ f cs=>obtain⟨vs,rfl,j⟩:=r.za;have:=l j;exact .bJ _ _ _ this.1 this.2
  |eV=>exact Au rfl H r (n+1)
  |_=>
   simp only[TQ.fz];split
   .rename_i s;exact r.closed s H
   .exact .any _
def ai2(h:Rel E S a w L){b:Nat}(c:bn E S L b):b<w.heap.size:=by
 rcases c with⟨id,d,e,c⟩|c
 .exact((h.obj id d).Ag e c).1
 .exact h.afI c
def IH(h:Rel E S a w L){b:Nat}(c:bn E S L b):¬gb b:=by
 rcases c with⟨id,d,e,c⟩|c
 .rcases((h.obj id d).Ag e c).2 with h1|h1
  .exact(E.EL b h1).2
  .intro f;have:=E.hX.gi.lt f;omega
 .exact h.anw c
def Rel.gi(h:Rel E S a w L):GI w:=E.hX.gi.fg λb c=>h.fr.block b (E.hX.gi.lt c) λe=>(E.EL b e).2 c
def Rel.xok(h:Rel E S a w L){X:Nat->Prop}(hX:∀q,X q->bn E S L q):zw w X:=⟨λq b=>ai2 h (hX q b),λq b=>IH h (hX q b),h.gi⟩
def Rel.x0(h:Rel E S a w L):zw w λ_=>False:= .nil h.gi
theorem bo.fz(h:Rel E S a w L){ex:Y Nat}{M:Nat->Prop}(k:∀b,M b->bn E S L b)(f:∀id b,id<S.N->(S.H id).c.live=true->some id≠ex->cq (L id)=some b->¬M b){c:Z PV}{vs:Z Va}
  (d:bo w (bn E S L) (S.gh L) c vs):bo w M dz (c.map (TQ.fz S.H ex 9)) vs:=
 ⟨by simp[d.1],λi p u e g=>by
  rw[QG,Qq]at e;obtain⟨q,j,rfl⟩:=e
  exact h.fz k f 9 (d.2 i q u j g)⟩
def bo.bP{M M':Nat->Prop}{G G':Gh}{c:Z PV}{vs:Z Va}(e:c.all PV.bP=true)(f:∀b,M' b->M b)(h:bo w M G c vs):bo w M' G' c vs:=
 ⟨h.1,λi y v d hv=>(h.2 i y v d hv).bP (Qn.1 e y (QL d)) f⟩
def bo.Ca{H:Nat->gU}{ex:Y Nat}{M M':Nat->Prop}{G:Gh}{c:Z PV}{vs:Z Va}(g:c.all PV.bP=true)(j:∀b,M' b->M b)(h:bo w M G c vs):bo w M' dz (c.map (TQ.fz H ex 9)) vs:=
 ⟨by simp[h.1],λi p u e f=>by
  rw[QG,Qq]at e;obtain⟨q,d,rfl⟩:=e
  exact Vo (Qn.1 g q (QL d)) j (h.2 i q u d f) 8⟩
def HO{es:Z (Z PV)}(h:DO es=true):es.flatten.all PV.closed=true:=by
 refine Qn.2 λy c=> ?_
 obtain⟨u,hu,b⟩:=List.mem_flatten.1 c;exact Qn.1 (Qn.1 h u hu) y b
def HN{es:Z (Z PV)}(h:Me es=true):es.flatten.all PV.plain=true:=by
 refine Qn.2 λy c=> ?_
 obtain⟨u,hu,b⟩:=List.mem_flatten.1 c;exact Qn.1 (Qn.1 h u hu) y b
def F0{w:Wo}{b:Nat}{e k:Nat}{v:Va}{n:Nat}{xs:Z Va}(h:w.ownsRow b e k v n xs):w.ownsRow 0 e k v n xs:=by
 refine⟨h.1,?_⟩;rcases h.2 with h1|⟨g,cap,c,h1,_,d⟩
 .exact .inl h1
 .exact .inr ⟨g,cap,c,h1,QT _,d⟩
def YA{w w':Wo}{b:Nat}{e k:Nat}{v:Va}{n n':Nat}{xs ys:Z Va}(h:w.ownsRow b e k v n xs)(f:w'.ownsRow 0 e k v n' ys):w'.ownsRow b e k v n' ys:=by
 refine⟨f.1,?_⟩;rcases f.2 with h1|⟨g,cap,d,h1,_,l⟩
 .exact .inl h1
 .refine .inr ⟨g,cap,d,h1,?_,l⟩;rcases h.2 with⟨c,_⟩|⟨g',j,i,c,m,_⟩
  .rw[c]at h1;cases h1
  .rw[c]at h1;injection h1 with h1
   injection h1 with h1
   injection h1 with h1
   omega
def KR{w:Wo}{b:Nat}{e k:Nat}{v:Va}{n:Nat}{xs:Z Va}(h:w.ownsRow b e k v n xs):∃ad n c,v= .slice ad n c:=by
 rcases h.2 with⟨rfl,_⟩|⟨g,cap,d,rfl,_⟩
 .exact⟨_,_,_,rfl⟩
 .exact⟨_,_,_,rfl⟩
def Hf{E:En}{w w':Wo}{b:Nat}{e k:Nat}{v u:Va}{n n':Nat}{xs ys:Z Va}(h:w.ownsRow (gE E v) e k v n xs)(i:w'.ownsRow 0 e k u n' ys)(hs:E.w0.heap.size<=b)
  (m:∀g,cq u=some g->cq v=some g\/b<=g):w'.ownsRow (gE E u) e k u n' ys:=by
 refine⟨i.1,?_⟩;rcases i.2 with h1|⟨g,cap,f,h1,_,p⟩
 .exact .inl h1
 .refine .inr ⟨g,cap,f,h1,?_,p⟩;have c:cq u=some g:=by rw[h1];rfl
  rcases m g c with hv|hv
  .rw[Ek (v:=u) (v':=v) (by rw[c,hv])]
   rcases h.2 with⟨d,_⟩|⟨g',l,j,d,q,_⟩
   .rw[d]at hv;cases hv
   .rw[d]at hv;simp only[cq,Qk]at hv;omega
  .rw[O0 c (QJ hs hv)];exact QJ hs hv
def aa4(h:Rel E S a w L){id:Nat}(t:id<S.N)(f:(S.H id).c.live=true){e:Z PV}{l:Z Va}(m:bo w (bn E S L) (S.gh L) e l):
  ∃X:Nat->Prop,zw w X/\(∀b,cq (L id)=some b->¬X b/\¬gb b)/\(∀q,Mv (L id) X q->bn E S L q)/\bo w (Mv (L id) X) dz (e.map (TQ.fz S.H (some id) 9)) l/\(e.all PV.bP=true->∀q,bn E S L q->Mv (L id) X q):=by
 have g:∀b,cq (L id)=some b->bn E S L b:=λb i=> .inl ⟨id,t,f,i⟩
 by_cases k:e.all PV.bP=true
 .have d:∀q,Mv (L id) (λq=>bn E S L q/\cq (L id)≠some q) q->bn E S L q:=by
   rintro q (c|c)
   .exact g q c
   .exact c.1
  refine⟨λq=>bn E S L q/\cq (L id)≠some q,h.xok λq c=>c.1,λb i=>⟨λc=>c.2 i,IH h (g b i)⟩,d,m.Ca k d,λ_ q c=> ?_⟩
  by_cases i:cq (L id)=some q
  .exact .inl i
  .exact .inr ⟨c,i⟩
 .have d:∀q,Mv (L id) (λ_=>False) q->bn E S L q:=by
   rintro q (c|c)
   .exact g q c
   .exact c.elim
  refine⟨λ_=>False,h.x0,λb i=>⟨λc=>c,IH h (g b i)⟩,d,?_,λc=>absurd c k⟩
  refine m.fz h d (λj q u r p s c=> ?_)
  rcases c with c|c
  .exact p (by rw[h.apart j id q u t r f s c])
  .exact c
def alJ{f:FI}{m:Model}{e k:Nat}(W:∀es d r g,m.rm es d=some (r,g)->adR P f e k es d r g)(h:Rel E S a w L){d:Z PV}{vs:Z Va}(hr:bo w (bn E S L) (S.gh L) d vs)(i:Db m e k S d=some (x,wr)):
  Calls P f vs.toArray w (λen w'=>∃v L',en= .returned v/\Rel E (S.fM wr) a w' L'/\bp w' (bn E (S.fM wr) L') ((S.fM wr).gh L') x v):=by
 unfold Db at i;split at i
 case h_2=>cases i
 rename_i id aw R;split at i
 case isFalse=>cases i
 rename_i t;split at i
 case h_2=>cases i
 rename_i e' k' es hc;split at i
 case isFalse=>cases i
 rename_i hek;obtain⟨rfl,rfl,hok⟩:=hek;split at i
 case h_2=>cases i
 rename_i r g hmm;split at i
 case isFalse=>cases i
 rename_i p;obtain⟨rfl,rfl⟩:=cd i;simp only[Qi,QR]at p;obtain⟨⟨hc1,hc2⟩,hc3⟩:=p;obtain⟨v0,vs',rfl,r0,hr'⟩:=hr.cons_inv;obtain⟨hN,B⟩:=r0.pR (show(S.gh L).V id=aw from t)
 have B:v0=L id:=B;subst B;have b:(S.H id).c.live=true:=by rw[hc];rfl
 obtain⟨us,A,hk,hru⟩:=h.mR hN hc;obtain⟨X,hX,hXn,U,N,T⟩:=aa4 h hN b hr';refine(W es _ r g hmm w X hX (L id) vs' hXn ⟨us,F0 A,hk,hru.closed (HO hok) U⟩ N).mono ?_;rintro en w' ⟨u,rfl,z,⟨us',I,hk',y⟩,l⟩
 have hmm':∀q,bn E {S with H:=bZ S.H id ⟨aw,.row e' k' g⟩} (bZ L id (L id)) q->bn E S L q:=by
  rintro q (⟨j,hj,J,K⟩|D)
  .simp only at hj J;have:bZ L id (L id) j=L j:=by by_cases s:j=id<;>simp[bZ,s]
   rw[this]at K
   by_cases s:j=id
   .subst s;exact .inl ⟨j,hj,b,K⟩
   .rw[du _ _ s]at J;exact .inl ⟨j,hj,J,K⟩
  .exact .inr D
 have V:R.all PV.bP=true->dp w' w' (Mv (L id) X) (bn E {S with H:=bZ S.H id ⟨aw,.row e' k' g⟩} (bZ L id (L id))):=λc=>(dp.of λ_ hnm=>λD=>hnm (T c _ (hmm' _ D)))
 obtain⟨h2,hs2,hg2⟩:=h.xN (w':=w') (hdr:=l.drawn) hN ⟨aw,.row e' k' g⟩ (L id) (.inl ⟨t.symm,rfl,b⟩) l.os l.tape l.output l.size
  (λq D hne=>l.block q D (hne b)) (λq _ D=> .inl ⟨b,D⟩)
  (λhs2 hg2=>⟨us',YA A I,hk',by
   rcases hc3 with F|c
   .exact y.plain (HN F)
   .exact y.mono (V c) (dz.le _)⟩)
 refine⟨u,_,rfl,h2,?_⟩;rcases hc1 with F|c
 .exact z.xU F
 .exact z.mono (V c.1) (dz.le _)
def alH{f:FI}{m:Model}{e k:Nat}(hrow:∀es d r s,m.rm es d=some (r,s)->RP P f e k es d s)(h:Rel E S a w L){d:Z PV}{vs:Z Va}(hr:bo w (bn E S L) (S.gh L) d vs)(i:Da m e k S d=some (x,wr)):
  Calls P f vs.toArray w (λen w'=>∃v L',en= .returned v/\Rel E (S.fM wr) a w' L'/\bp w' (bn E (S.fM wr) L') ((S.fM wr).gh L') x v):=by
 unfold Da at i;split at i
 case h_2=>cases i
 rename_i id aw V;split at i
 case isFalse=>cases i
 rename_i W;split at i
 case h_2=>cases i
 rename_i e' k' es hc;split at i
 case isFalse=>cases i
 rename_i hek;obtain⟨rfl,rfl,hok⟩:=hek;split at i
 case h_2=>cases i
 rename_i r s hmm;split at i
 case isFalse=>cases i
 rename_i A;obtain⟨rfl,rfl⟩:=cd i;simp only[Qi,QR]at A;obtain⟨hc2,hc3⟩:=A;obtain⟨v0,vs',rfl,r0,hr'⟩:=hr.cons_inv;obtain⟨U,K⟩:=r0.pR (show(S.gh L).V id=aw from W)
 have K:v0=L id:=K;subst K;have b:(S.H id).c.live=true:=by rw[hc];rfl
 obtain⟨us,y,hk,hru⟩:=h.mR U hc;obtain⟨X,hX,hXn,hsub,T,I⟩:=aa4 h U b hr';refine(hrow es _ r s hmm w X hX (L id) vs' hXn ⟨us,F0 y,hk,hru.closed (HO hok) hsub⟩ T).mono ?_;rintro en w' ⟨u,rfl,⟨us',t,hk',J⟩,hub,p⟩
 have hEX:∀q,E.X q->cq (L id)≠some q:=by
  intro q g F
  by_cases hH:E.H0 q
  .exact(h.an.2.2 q hH).2.2 id U b F
  rcases y.2 with⟨h4,_⟩|⟨g',cap',cur',h4,h5,_⟩
  .rw[h4]at F;cases F
  .have D:cq (L id)=some g':=by rw[h4];rfl
   rw[F]at D;injection D with D
   subst D;rcases JH F h5 with⟨h6,h7⟩|h6
   .exact E.TE h6 q h7 g
   .have:=E.hX.lt q ⟨g,hH⟩;omega
 have hst:V.all PV.bP=true->dp w' w' (Mv u X) (bn E {S with H:=bZ S.H id ⟨aw+1,.row e' k' s⟩} (bZ L id u)):=by
  intro l;refine(dp.of λ_ hnm=>λg=>hnm ?_)
  rcases g with⟨j,hj,B,z⟩|g
  .simp only at hj B
   by_cases R:j=id
   .subst R;rw[cJ]at z;exact .inl z
   .rw[du _ _ R]at B z;rcases I l _ (.inl ⟨j,hj,B,z⟩)with g|g
    .exact absurd (h.apart j id _ hj U B b z g) R
    .exact .inr g
  .rcases I l _ (.inr g)with N|N
   .exact absurd N (hEX _ g)
   .exact .inr N
 obtain⟨h2,hs2,hg2⟩:=h.xN (w':=w') (hdr:=p.drawn) U ⟨aw+1,.row e' k' s⟩ u (.inr (by show(S.H id).aw<aw+1;omega)) p.os p.tape p.output p.size
  (λq g hne=>p.block q g (hne b)) (λq _ g=>(hub q g).imp (λF=>⟨b,F⟩) (λF=>F))
  (λhs2 hg2=>⟨us',Hf y t h.fr.size hub,hk',by
   rcases hc3 with hpl|l
   .exact J.plain (HN hpl)
   .exact J.mono (hst l) (dz.le _)⟩)
 obtain⟨ad,n,c,hu⟩:=KR t;refine⟨u,_,rfl,h2,?_⟩;subst hu;exact .own _ _ _ _ _ U (by simp[St.gh,St.fM,cJ]) (λ_=>by simp[St.gh,St.fM,cJ])
def alu{f:FI}{m:Model}{e k:Nat}(J:∀b r p,m.rm [] b=some (r,p)->aak P f b e k p)(h:Rel E S a w L)(hn:nid<S.N){b:Z PV}{vs:Z Va}(hr:bo w (bn E S L) (S.gh L) b vs)(F:Ja m e k nid S b=some (x,wr)):
  Calls P f vs.toArray w (λen w'=>∃v L',en= .returned v/\Rel E (S.fM wr) a w' L'/\bp w' (bn E (S.fM wr) L') ((S.fM wr).gh L') x v):=by
 unfold Ja at F;split at F
 case h_2=>cases F
 rename_i r p hmm;split at F
 case isFalse=>cases F
 rename_i y;obtain⟨rfl,rfl⟩:=cd F;simp only[Qi,QR]at y;obtain⟨hc2,hc3⟩:=y
 have R:∃X:Nat->Prop,zw w X/\bo w X dz (b.map (TQ.fz S.H none 9)) vs/\(b.all PV.bP=true->∀q,bn E S L q->X q):=by
  by_cases d:b.all PV.bP=true
  .exact⟨bn E S L,h.xok λq i=>i,hr.Ca d (λq i=>i),λ_ q i=>i⟩
  .exact⟨λ_=>False,h.x0,hr.fz h (λq i=>i.elim) (λj q hj z hne t i=>i),λi=>absurd i d⟩
 obtain⟨X,hX,D,A⟩:=R;refine(J _ r p hmm w X hX vs D).mono ?_;rintro en w' ⟨u,rfl,⟨N,s,hk',B⟩,I,l⟩
 have T:b.all PV.bP=true->dp w' w' (Mv u X) (bn E {S with H:=bZ S.H nid ⟨(S.H nid).aw+1,.row e k p⟩} (bZ L nid u)):=by
  intro d;refine(dp.of λ_ W=>λi=>W ?_)
  rcases i with⟨j,hj,z,t⟩|i
  .simp only at hj z
   by_cases K:j=nid
   .subst K;rw[cJ]at t;exact .inl t
   .rw[du _ _ K]at z t;exact .inr (A d _ (.inl ⟨j,hj,z,t⟩))
  .exact .inr (A d _ (.inr i))
 obtain⟨h2,U,hg2⟩:=h.xN (w':=w') (hdr:=l.drawn) hn ⟨(S.H nid).aw+1,.row e k p⟩ u (.inr (qav _)) l.os l.tape l.output l.size
  (λq i _=>l.block q i t_) (λq _ i=> .inr (I q i))
  (λU hg2=>⟨N,Hf (v:= .slice none 0 0) (World.ownsRow_nil w _ _ _) s h.fr.size (λg hg=> .inr (I g hg)),hk',by
   rcases hc3 with V|d
   .exact B.plain (HN V)
   .exact B.mono (T d) (dz.le _)⟩)
 obtain⟨ad,n,c,hu⟩:=KR s;refine⟨u,_,rfl,h2,?_⟩;subst hu;exact .own _ _ _ _ _ hn (by simp[St.gh,St.fM,cJ]) (λ_=>by simp[St.gh,St.fM,cJ])
def bo.ajM{M:Nat->Prop}{G:Gh}{b:Z PV}{vs:Z Va}(f:bo w M G b vs){p:Nat}{y:PV}(g:b[p]?=some y):
  ∃v0,bp w M G y v0/\bo w M G (cutAt p b) (cutAt p vs)/\my p [v0] (cutAt p vs)=vs:=by
 obtain⟨v0,c,d⟩:=f.get g;refine⟨v0,d,(f.take p).append (f.drop (p+1)),?_⟩;have e:p<vs.length:=(QH.1 c).1;have k:(vs.take p).length=p:=o_
 have j:(cutAt p vs).take p=vs.take p:=by unfold cutAt;rw[List.take_append_of_le_length O];rw[List.take_take,qbQ]
 have i:(cutAt p vs).drop p=vs.drop (p+1):=by unfold cutAt;rw[List.drop_append_of_le_length O];rw[List.drop_of_length_le O,List.nil_append]
 unfold my;rw[j,i]
 have h:vs.drop p=v0::vs.drop (p+1):=by rw[QQ e];congr 1;rw[Qj e]at c;injection c
 rw[qah,List.singleton_append,<-h,List.take_append_drop]
def VA(hΓ:rE P Γ)(h:Rel E S a w L)(hn:nid<S.N){f:FI}{p:Z PV}{vs:Z Va}(hr:bo w (bn E S L) (S.gh L) p vs)(s:pF Γ nid S f p=some (x,wr)):
  Enters P f/\Calls P f vs.toArray w (λe w'=>∃v L',e= .returned v/\Rel E (S.fM wr) a w' L'/\bp w' (bn E (S.fM wr) L') ((S.fM wr).gh L') x v):=by
 unfold pF at s;split at s
 .cases s
 .rename_i m hm;obtain⟨hen,U,hconN,F,hro⟩:=hΓ f m hm;refine⟨hen,?_⟩;split at s
  .rename_i e k hrk;rw[KI,hrk]at F;exact alJ F h hr s
  .rename_i e k hrk;rw[KI,hrk]at F;exact alH F h hr s
  .rename_i e k hrk;rw[KI,hrk]at F;exact alu F h hn hr s
  split at s
  .rename_i hfresh;split at s
   .rename_i r0 cs V;split at s
    .rename_i l;obtain⟨rfl,rfl⟩:=cd s;simp only[Qi,QR]at l;obtain⟨hc1,hc2⟩:=l
     have W:∃X:Nat->Prop,zw w X/\bo w X dz (p.map (TQ.fz S.H none 9)) vs/\(p.all PV.bP=true->∀q,bn E S L q->X q):=by
      by_cases d:p.all PV.bP=true
      .exact⟨bn E S L,h.xok λq c=>c,hr.Ca d (λq c=>c),λ_ q c=>c⟩
      .exact⟨λ_=>False,h.x0,hr.fz h (λq c=>c.elim) (λj q hj A hne u c=>c),λc=>absurd c d⟩
     obtain⟨X,hX,B,D⟩:=W;refine(hconN hfresh _ _ _ V w X hX vs B).mono ?_;rintro e w' ⟨b,rvs,T,rfl,hbge,hh,hrc,i⟩
     have hmq:p.all PV.bP=true->∀q,bn E {S with H:=bZ S.H nid ⟨(S.H nid).aw+1,.box cs⟩} (bZ L nid (.pointer (some ⟨b,0,none⟩))) q->X q\/q=b:=by
      rintro d q (⟨j,hj,A,u⟩|c)
      .simp only at hj A
       by_cases N:j=nid
       .subst N;rw[cJ]at u;simp only[cq,Qk]at u;exact .inr u.symm
       .rw[du _ _ N]at A u;exact .inl (D d q (.inl ⟨j,hj,A,u⟩))
      .exact .inl (D d q (.inr c))
     obtain⟨h2,hs2,hg2⟩:=h.xN (w':=w') (hdr:=i.drawn) hn ⟨(S.H nid).aw+1,.box cs⟩ (.pointer (some ⟨b,0,none⟩)) (.inr (qav _)) i.os i.tape i.output i.size (λq c _=>i.block q c t_)
      (λq _ c=> .inr (by simp only[cq,Qk]at c;omega))
      (λhs2 hg2=>⟨b,rvs.toArray,T,rfl,hh,.inr (QJ h.fr.size hbge),by
       simp only;rcases hc2 with K|d
       .exact hrc.plain K
       .exact hrc.mono (dp.of λ_ hn' c=>hn' (hmq d _ c)) (dz.le _)⟩)
     refine⟨_,_,rfl,h2,?_⟩;exact .ptr _ _ _ _ hn (by simp[St.gh,St.fM,cJ]) (λ_=>by simp[St.gh,St.fM,cJ,cq])
    .cases s
   .cases s
  rename_i hnf;have hnf':m.fresh=false:=by simpa using hnf
  have U:=U hnf';split at s
  .rename_i z;split at s
   .rename_i id aw hpos;generalize hrest:cutAt m.pos p=rest at s;split at s
    .rename_i R;split at s
     .rename_i cs hc;split at s
      .rename_i hcl;split at s
       .rename_i r cs' V;split at s
        .rename_i l;obtain⟨rfl,rfl⟩:=cd s
         have hwr:S.fM (if(m.ro&&cs.all PV.YG)=true then none else some (id,(⟨aw,.box cs'⟩:gU)))=S.fM (some (id,⟨aw,.box cs'⟩)):=by
          split
          .rename_i c;rw[Qi]at c
           have e1:cs.map TQ.nz=cs:=by
            rw[qak (g:=λy=>y) λy hy=>by have:=Qn.1 c.2 y hy;cases y<;>first|rfl|cases this]
            simp
           have e2:=hro c.1 _ _ _ _ V;rw[e1]at e2;rw[e2];show S={S with H:=bZ S.H id ⟨aw,.box cs⟩}
           have e3:(⟨aw,.box cs⟩:gU)=S.H id:=by rw[<-R,<-hc]
           rw[e3]
           have e4:bZ S.H id (S.H id)=S.H:=by
            funext j;unfold bZ;split
            .rename_i e;rw[e]
            .rfl
           rw[e4]
          .rfl
         rw[hwr];simp only[Qi,QR]at l;obtain⟨⟨⟨hc1,hc2⟩,hc3⟩,hc4⟩:=l;obtain⟨v0,r0,hr',hins⟩:=hr.ajM hpos;rw[hrest]at hr';generalize cutAt m.pos vs=vs' at hr' hins;obtain⟨hN,_⟩:=r0.rQ (show(S.gh L).V id=aw from R)
         obtain⟨b,hv0,hL⟩:=h.xT r0 R hc;obtain⟨b',cur,T,hL',hh,hrc,hE⟩:=h.tV hN hc;rw[hL]at hL';simp only[Value.pointer.injEq,Qk,qa4]at hL';obtain⟨rfl,_⟩:=hL';have hmb:bn E S L b:= .inl ⟨id,hN,by rw[hc];rfl,by rw[hL];rfl⟩
         have W:∃X:Nat->Prop,zw w X/\(∀q,Mc true b X q->bn E S L q)/\bo w (Mc true b X) dz (rest.map (TQ.fz S.H (some id) 9)) vs'/\(rest.all PV.bP=true->∀q,bn E S L q->Mc true b X q):=by
          by_cases d:rest.all PV.bP=true
          .refine⟨bn E S L,h.xok λq c=>c,λq c=> ?_,?_,λ_ q c=> .inr c⟩
           .rcases c with⟨_,rfl⟩|c
            .exact hmb
            .exact c
           .exact hr'.Ca d (λq c=>by
             rcases c with⟨_,rfl⟩|c
             .exact hmb
             .exact c)
          .refine⟨λ_=>False,h.x0,λq c=> ?_,?_,λc=>absurd c d⟩
           .rcases c with⟨_,rfl⟩|c
            .exact hmb
            .exact c.elim
           .refine hr'.fz h (λq c=> ?_) (λj q hj A hne u c=> ?_)
            .rcases c with⟨_,rfl⟩|c
             .exact hmb
             .exact c.elim
            .rcases c with⟨_,rfl⟩|c
             .exact hne (by rw[h.apart j id q hj hN A (by rw[hc];rfl) u (by rw[hL];rfl)])
             .exact c
         obtain⟨X,hX,hsub,B,D⟩:=W;have t:=U (cs.map TQ.nz) (rest.map (TQ.fz S.H (some id) 9)) r cs' V w X hX b T cur.toList vs' (λ_=>⟨by simpa using hh,by rw[z];exact(hrc.closed hcl hsub).nz,IH h hmb⟩) (by rw[z];exact B)
         rw[z]at t;have hargsv:(my m.pos (Ap true b) vs').toArray=vs.toArray:=by rw[<-hins,hv0];rfl
         rw[hargsv]at t;refine t.mono ?_;rintro e w' ⟨v,rvs',rfl,J,hrv,i⟩;obtain⟨⟨T',hh'⟩,hrc'⟩:=hrv rfl;simp only[Qr]at i
         have hmm':∀q,bn E {S with H:=bZ S.H id ⟨aw,.box cs'⟩} (bZ L id (L id)) q->bn E S L q:=by
          rintro q (⟨j,hj,A,u⟩|c)
          .simp only at hj A;have:bZ L id (L id) j=L j:=by by_cases N:j=id<;>simp[bZ,N]
           rw[this]at u
           by_cases N:j=id
           .subst N;exact .inl ⟨j,hj,by rw[hc];rfl,u⟩
           .rw[du _ _ N]at A;exact .inl ⟨j,hj,A,u⟩
          .exact .inr c
         have hst:rest.all PV.bP=true->dp w' w' (Mc true b X) (bn E {S with H:=bZ S.H id ⟨aw,.box cs'⟩} (bZ L id (L id))):=λd=>(dp.of λ_ hnm=>λc=>hnm (D d _ (hmm' _ c)))
         obtain⟨h2,hs2,hg2⟩:=h.xN (w':=w') (hdr:=i.drawn) hN ⟨aw,.box cs'⟩ (L id) (.inl ⟨R.symm,rfl,by rw[hc];rfl⟩) i.os i.tape i.output i.size
          (λq c hne=>i.block q c (λeq=>hne (by rw[hc];rfl) (by rw[hL];exact eq)))
          (λq _ c=> .inl ⟨by rw[hc];rfl,c⟩)
          (λhs2 hg2=>⟨b,rvs'.toArray,T',hL,hh',hE,by
           simp only;rcases hc4 with K|d
           .exact hrc'.plain K
           .exact hrc'.mono (hst d) (dz.le _)⟩)
         refine⟨v,_,rfl,h2,?_⟩;rcases hc1 with K|d
         .exact J.xU K
         .exact J.mono (hst d) (dz.le _)
        .cases s
       .cases s
      .cases s
     .cases s
    .cases s
   .cases s
  .rename_i z;split at s
   .rename_i r cs' V;split at s
    .rename_i l;obtain⟨rfl,rfl⟩:=cd s;simp only[QR,Qi]at l;have I:m.recv=false:=by simpa using z
     have W:∃X:Nat->Prop,zw w X/\bo w (Mc false 0 X) dz (p.map (TQ.fz S.H none 9)) vs/\(p.all PV.bP=true->∀q,bn E S L q->Mc false 0 X q):=by
      by_cases d:p.all PV.bP=true
      .refine⟨bn E S L,h.xok λq c=>c,?_,λ_ q c=> .inr c⟩
       exact hr.Ca d (λq c=>by
        rcases c with⟨c,_⟩|c
        .cases c
        .exact c)
      .refine⟨λ_=>False,h.x0,?_,λc=>absurd c d⟩
       refine hr.fz h (λq c=> ?_) (λj q hj A hne u c=> ?_)
       .rcases c with⟨c,_⟩|c
        .cases c
        .exact c.elim
       .rcases c with⟨c,_⟩|c
        .cases c
        .exact c
     obtain⟨X,hX,B,D⟩:=W;have t:=U [] (p.map (TQ.fz S.H none 9)) r cs' V w X hX 0 0 [] vs (λc=>by rw[I]at c;cases c) (by rw[I];exact B)
     rw[I]at t;simp only[Ap,QB,Qx,Wy]at t;refine t.mono ?_;rintro e w' ⟨v,rvs',rfl,J,_,i⟩;simp only[QB,Qx]at i;obtain⟨h2,hs2⟩:=h.grow (w':=w') i.os i.tape i.output i.size (λq c=>i.block q c t_) i.drawn
     refine⟨v,L,rfl,h2,?_⟩;rcases l with K|⟨d,_⟩
     .exact J.xU K
     .exact J.mono (dp.of λ_ hnm=>λc=>hnm (D d _ c)) (dz.le _)
    .cases s
   .cases s
end
end
section
open Go.RowKit
section
variable{P:Pr}{E:En}{S:St}{a:Act}{w:Wo}{L:Nat->Va}{o:Oper}{x:PV}{wr:Y (Nat×gU)}{Γ:sF}{nid:Nat}{hs:Z Nat}
theorem Jp{α:Type}(f:Nat->α)(i:Nat):bZ f i (f i)=f:=by grind [bZ]
def Rel.kill(h:Rel E S a w L){id:Nat}(d:id<S.N)(c:(S.H id).c.live=true):Rel E {S with H:=bZ S.H id ⟨(S.H id).aw,.dead⟩} a w L:=by
 have:=(h.xN (w':=w) d ⟨(S.H id).aw,.dead⟩ (L id) (.inl ⟨rfl,rfl,c⟩) rfl rfl rfl (Qs _) (λ_ _ _=>rfl) (λb c=>by cases c) (λ_ _=>trivial)).1
 rwa [Jp]at this
def Rel.alr(h:Rel E S a w L){id e k:Nat}{es:Z (Z PV)}(t:id<S.N)(J:(S.H id).c= .row e k es)(W:∀u∈es,u.all PV.closed=true):
  Rel E {S with H:=bZ S.H id ⟨(S.H id).aw,.dead⟩} a w L/\∀v,v=L id->bp w (bn E {S with H:=bZ S.H id ⟨(S.H id).aw,.dead⟩} L) (St.gh {S with H:=bZ S.H id ⟨(S.H id).aw,.dead⟩} L) (.sl es) v:=by
 have c:(S.H id).c.live=true:=by rw[J];rfl
 refine⟨h.kill t c,λv hv=> ?_⟩
 let⟨vs,f,hk,U⟩:=h.mR t J
 rw[hv]
 have K:∀b,bn E {S with H:=bZ S.H id ⟨(S.H id).aw,.dead⟩} L b->bn E S L b/\(cq (L id)=some b->E.X b):=by
  rintro b (⟨j,z,d,s⟩|I)
  .simp only at z d
   by_cases l:j=id
   .subst l;rw[cJ]at d;cases d
   .rw[du _ _ l]at d;exact⟨.inl ⟨j,z,d,s⟩,λF=>absurd (h.apart j id b z t d c s F) l⟩
  .exact⟨.inr I,λ_=>I⟩
 rcases f.2 with⟨m,h0⟩|⟨g,cap,cur,m,D,hh,y,A,_⟩
 .have:es=[]:=qaz h0;subst this;rw[m];exact .slnil
 .rw[m]
  have B:es.flatten.all PV.closed=true:=by grind
  have q:=bo.closed (M':=bn E {S with H:=bZ S.H id ⟨(S.H id).aw,.dead⟩} L) (G':=dz) B (λb s=>(K b s).1) U
  refine .sl _ _ _ k vs hk q.1 (λi u T=>⟨f.cells (g:=g) (by rw[m];rfl) i u T,λV=> ?_⟩) q.2 (by simpa using y) A
  have p:=(K g V).2 (by rw[m];rfl)
  have r:cq (L id)=some g:=by rw[m];rfl
  by_cases N:E.H0 g
  .exact(h.an.2.2 g N).2.2 id t c r
  rcases JH r D with⟨R,X⟩|R
  .exact E.TE R g X p
  .have:=E.hX.lt g ⟨p,N⟩;omega
def Rel.EN(h:Rel E S a w L){id e k:Nat}{es:Z (Z PV)}{v:Va}(r:bp w (bn E S L) (S.gh L) (.own id (S.H id).aw) v)(c:(S.H id).c= .row e k es)(b:∀u∈es,u.all PV.closed=true):
  Rel E {S with H:=bZ S.H id ⟨(S.H id).aw,.dead⟩} a w L/\bp w (bn E {S with H:=bZ S.H id ⟨(S.H id).aw,.dead⟩} L) (St.gh {S with H:=bZ S.H id ⟨(S.H id).aw,.dead⟩} L) (.sl es) v:=by
 let⟨d,hv⟩:=r.pR (show(S.gh L).V id=(S.H id).aw from rfl)
 let⟨h1,f⟩:=h.alr d c b
 exact⟨h1,f v hv⟩
def ag9{e k b:Nat}{s y:bD}(g:exec Γ nid S (.cY true e k b s y)=some (x,wr)):∃id aw es,exec Γ nid S (.cY false e k b s y)=some (.own id aw,some (id,⟨aw,.row e k es⟩))/\x= .sl es/\wr=some (id,⟨aw,.dead⟩)/\∀u∈es,u.all PV.closed=true:=by
 have h:∀{id aw:Nat} {es:Z (Z PV)},Nk true id aw e k es=some (x,wr)->∃d c f,Nk false id aw e k es=some (.own d c,some (d,⟨c,.row e k f⟩))/\x= .sl f/\wr=some (d,⟨c,.dead⟩)/\∀u∈f,u.all PV.closed=true:=by grind [Nk,cd]
 simp only[exec]at g ⊢;split at g
 .grind
 .cases g
def Good.EN{id aw e k:Nat}{es:Z (Z PV)}(h:Good P E S a w o (.own id aw) (some (id,⟨aw,.row e k es⟩)))(b:∀u∈es,u.all PV.closed=true):Good P E S a w o (.sl es) (some (id,⟨aw,.dead⟩)):=by
 let⟨i,w',p,v,h1,l,d,g⟩:=h
 have c:(S.fM (some (id,⟨aw,.row e k es⟩))).H id=⟨aw,.row e k es⟩:=cJ _ _ _;have hv:((S.fM (some (id,⟨aw,.row e k es⟩))).H id).aw=aw:=by rw[c]
 have f:((S.fM (some (id,⟨aw,.row e k es⟩))).H id).c= .row e k es:=by rw[c]
 generalize hS:S.fM (some (id,⟨aw,.row e k es⟩))=q at d g c hv f;rw[<-hv]at d
 let⟨g1,g2⟩:=g.EN d f b
 rw[hv,<-hS]at g1 g2
 have m:({S.fM (some (id,⟨aw,.row e k es⟩))with H:=bZ (S.fM (some (id,⟨aw,.row e k es⟩))).H id ⟨aw,.dead⟩}:St)=S.fM (some (id,⟨aw,.dead⟩)):=by
  unfold St.fM;simp[St.mk.injEq,true_and,and_true]
  funext j
  unfold bZ;split<;>rfl
 rw[m]at g1 g2;exact⟨i,w',p,v,h1,l,g2,g1⟩
def pw{f:FI}(d:Enters P f)(b:Array Va):(callFunc f b).run P w= .ok (.enter f b) w:=by
 let⟨fn,j,h,i⟩:=d
 have g:¬fn.body=none:=by intro e;rw[e]at h;cases h
 have c:¬fn.name= "runtime.NumGoroutine":=by simpa using i
 simp[callFunc,program,Sem.run,j,g,c]
def Vz{f:FI}{b:Array Va}(g:(execOp a.eval o).run P w= .ok (.enter f b) w)
  (c:Calls P f b w (λe w'=>∃v d,e= .returned v/\Rel E (S.fM wr) a w' d/\bp w' (bn E (S.fM wr) d) ((S.fM wr).gh d) x v)) (i:Ob o) (j:∀t,o.dst=some t->E.can t) {K:Act->Wo->Prop} {Q:Exit->Act->Wo->Prop}
  (k:∀a' w' d,Rel E (S.cY o.dst x wr) a' w' d->K a' w'):o.wpIn (WF E.rd) 0 P a w K Q:=by
 unfold Oper.wpIn;rw[qbd _ _ _ i,g];refine⟨λ_ _=>trivial,(λh=>by cases h),Fo.2 (Calls.mono c ?_)⟩
 rintro e w' ⟨v,d,rfl,h1,l⟩;exact k _ _ _ (show Rel E (S.cY o.dst x wr) (a.put o.dst v) w' d from h1.acM j l)
def ZO{f:FI}{xs:Z bD}(b:Hv P hs o=some (.call f xs)):∃(args:Array Od) (c:Array TI),o.op= .call {callee:= .value (.func f),args:=args,argTypes:=c}/\args.toList.mapM bK=some xs:=by
 unfold Hv at b;split at b
 case h_22 h args c e=>
  simp[Qu,Qm]at b
  let⟨i,d,b⟩:=b
  split at b
  .injection b with b
   injection b with h1 g
   subst h1 g;exact⟨_,_,e,d⟩
  .simp[Qm,Qk,reduceCtorEq,and_false,qbR]at b
 all_goals (repeat' split at b)<;>(try simp[Qu,Qm,Qk,reduceCtorEq,and_false,qbR]at b)<;>(try (let⟨_,_,b⟩:=b))<;>(try (let⟨_,_,b⟩:=b))<;>(try (let⟨_,_,b⟩:=b))<;>(repeat' split at b)<;>(try simp[Qu,Qm,Qk,reduceCtorEq,and_false,qbR]at b)<;>cases b
def Dy{s:cU}(b:Hv P hs o=some s):Ob o:=by intro c e;unfold Hv at b;rw[e]at b;cases b
theorem adi(hΓ:rE P Γ){s:cU}(d:Hv P hs o=some s)(h:Rel E S a w L)(R:nid<S.N)(q:exec Γ nid S s=some (x,wr))(u:∀t,o.dst=some t->E.can t){K:Act->Wo->Prop}{Q:Exit->Act->Wo->Prop}
  (A:∀a' w' L',Rel E (S.cY o.dst x wr) a' w' L'->K a' w'):o.wpIn (WF E.rd) 0 P a w K Q:=by
 have m:Ob o:=Dy d;unfold Hv at d;split at d
 case h_1 y j=>simp[Qu,Qm,Qk]at d;obtain⟨F,p,rfl⟩:=d;simp only[exec]at q;obtain⟨rfl,rfl⟩:=cd q;exact(ahP h (.inl j) p).wp m u A
 case h_2 y j=>simp[Qu,Qm,Qk]at d;obtain⟨F,p,rfl⟩:=d;simp only[exec]at q;obtain⟨rfl,rfl⟩:=cd q;exact(ahP h (.inr j) p).wp m u A
 case h_3 c y z j=>simp[Qu,Qm,Qk]at d;obtain⟨c',hc',F,p,J,r,rfl⟩:=d;exact(alj h j hc' p r q).wp m u A
 case h_4 t y j=>
  simp[Qu,Qm,Qk]at d;obtain⟨F,p,rfl⟩:=d;split at q
  .split at q
   .exact(alp h j p q).wp m u A
   .exact(ahS h R j p q).wp m u A
  .exact(ahS h R j p q).wp m u A
 case h_5 t j=>simp[Qu,Qm,Qk]at d;obtain⟨z,r,rfl⟩:=d;exact(ajq h R j r q).wp m u A
 case h_6 t y j=>simp[Qu,Qm,Qk]at d;obtain⟨n,hn',F,p,rfl⟩:=d;exact(alk h j hn' p q).wp m u A
 case h_7 t y z j=>simp[Qu,Qm,Qk]at d;obtain⟨i,hi,F,p,J,r,rfl⟩:=d;exact(ajl h j hi p r q).wp m u A
 case h_8 t parts j=>
  split at d
  .rename_i T B;simp[Qu,Qm,Qk]at d;obtain⟨z,r,places,hp,ps,W,rfl⟩:=d;exact(abG h j r (.inl ⟨T,places,B,hp,W⟩) q).wp m u A
  .rename_i n e B;simp[Qu,Qm,Qk]at d;obtain⟨z,r,i,hi,ps,W,rfl⟩:=d;exact(abG h j r (.inr ⟨n,e,i,B,hi,W⟩) q).wp m u A
  .cases d
 case h_9 t len parts j=>
  split at d
  .rename_i e B;simp only[Qu,Qm]at d;obtain⟨i,hi,z,r,ps,W,d⟩:=d;split at d
   .rename_i U;injection d with d
    subst d;exact(amO h R j B hi r W U.1 U.2.1 U.2.2 q).wp m u A
   .cases d
  .cases d
 case h_10 s0 y f j=>
  split at d
  .rename_i T B;simp only[Qu,Qm]at d;obtain⟨fd,hf,i,hi,d⟩:=d;split at d
   .cases d
   .rename_i h0;simp[Qm,Qk]at d;obtain⟨F,p,rfl⟩:=d;exact(ajo h j B hf hi h0 p q).wp m u A
  .cases d
 case h_11 t y z j=>
  split at d
  .rename_i e B;simp[Qu,Qm,Qk]at d;obtain⟨i,hi,F,p,J,r,rfl⟩:=d;exact(ajn h j B hi p r q).wp m u A
  .rename_i n e B;simp[Qu,Qm,Qk]at d;obtain⟨i,hi,F,p,J,r,rfl⟩:=d;exact(ajr h j B hi p r q).wp m u A
  .cases d
 case h_12 op t y z t2 j=>
  split at d
  .rename_i fs B;split at d
   .rename_i f g hfs;split at d
    .rename_i k0 hf hg;split at d
     .rename_i U
      let⟨b1,b2,b3,b4,b5,b6⟩:=U
      split at d
      .simp[Qu,Qm,Qk]at d;obtain⟨F,p,J,r,rfl⟩:=d;exact(ahR (neg:=false) h (by simpa using j) B hfs hf hg b1 b2 b3 b4 b5 b6 p r q).wp m u A
      .simp[Qu,Qm,Qk]at d;obtain⟨F,p,J,r,rfl⟩:=d;exact(ahR (neg:=true) h (by simpa using j) B hfs hf hg b1 b2 b3 b4 b5 b6 p r q).wp m u A
      .cases d
     .cases d
    .split at d
     .rename_i ks X;split at d
      .rename_i hgu;split at d
       .simp[Qu,Qm,Qk]at d;obtain⟨F,p,J,r,rfl⟩:=d;exact(XN (neg:=false) h (by simpa using j) B X hgu p r q).wp m u A
       .simp[Qu,Qm,Qk]at d;obtain⟨F,p,J,r,rfl⟩:=d;exact(XN (neg:=true) h (by simpa using j) B X hgu p r q).wp m u A
       .cases d
      .cases d
     .cases d
   .split at d
    .rename_i ks X;split at d
     .rename_i hgu;split at d
      .simp[Qu,Qm,Qk]at d;obtain⟨F,p,J,r,rfl⟩:=d;exact(XN (neg:=false) h (by simpa using j) B X hgu p r q).wp m u A
      .simp[Qu,Qm,Qk]at d;obtain⟨F,p,J,r,rfl⟩:=d;exact(XN (neg:=true) h (by simpa using j) B X hgu p r q).wp m u A
      .cases d
     .cases d
    .cases d
  .rename_i e B;split at d
   .split at d
    .simp[Qu,Qm,Qk]at d;obtain⟨F,p,rfl⟩:=d;exact(abF (neg:=false) h (by simpa using j) B p q).wp m u A
    .simp[Qu,Qm,Qk]at d;obtain⟨F,p,rfl⟩:=d;exact(abF (neg:=true) h (by simpa using j) B p q).wp m u A
    .cases d
   .cases d
  .rename_i B;split at d
   .simp[Qu,Qm,Qk]at d;obtain⟨F,p,J,r,rfl⟩:=d;exact(ahQ (neg:=false) h (by simpa using j) B p r q).wp m u A
   .simp[Qu,Qm,Qk]at d;obtain⟨F,p,J,r,rfl⟩:=d;exact(ahQ (neg:=true) h (by simpa using j) B p r q).wp m u A
   .cases d
  .simp only[Qu,Qm,Qk]at d;obtain⟨F,p,J,r,rfl⟩:=d;exact(amP h j p r q).wp m u A
 case h_13 t y j=>simp[Qu,Qm,Qk]at d;obtain⟨F,p,rfl⟩:=d;exact(amI h j p q).wp m u A
 case h_14 src dst y j=>
  split at d
  .rename_i k0 k hs ht;simp[Qu,Qm,Qk]at d;obtain⟨F,p,rfl⟩:=d;exact(alo h j hs ht p q).wp m u A
  .cases d
 case h_15 t y z j=>
  split at d
  .rename_i len e B;simp[Qu,Qm,Qk]at d;obtain⟨n,R,i,hi,F,p,J,r,rfl⟩:=d;exact(alq h j B R hi p r q).wp m u A
  .cases d
 case h_16 t y z ok j=>cases d
 case h_17 y j=>simp[Qu,Qm,Qk]at d;obtain⟨F,p,rfl⟩:=d;exact(ajm h j p q).wp m u A
 case h_18 y i j=>simp[Qu,Qm,Qk]at d;obtain⟨F,p,rfl⟩:=d;exact(aln h j p q).wp m u A
 case h_19 f first caps j=>
  split at d
  .rename_i h0;simp[Qu,Qm,Qk]at d;obtain⟨cs,hcs,rfl⟩:=d;exact(amK h j h0 hcs q).wp m u A
  .split at d
   .rename_i h0;simp[Qu,Qm,Qk]at d;obtain⟨cs,hcs,rfl⟩:=d;exact(amL h j h0 hcs q).wp m u A
   .cases d
 case h_20 t l c j=>
  split at d
  .rename_i e B;simp only[Qu,Qm]at d;obtain⟨i,hi,d⟩:=d;split at d
   .rename_i h0;simp[Qm,Qk]at d;obtain⟨z,r,l',hl,c',hc',rfl⟩:=d;exact(amJ h R j B hi h0 r hl hc' q).wp m u A
   .cases d
  .cases d
 case h_21 t y lo hi j=>
  split at d
  .rename_i e B;simp[Qu,Qm,Qk]at d;obtain⟨i,hi0,F,p,lo',hlo,hi',hhi,rfl⟩:=d;exact(amH h j B hi0 p hlo hhi q).wp m u A
  .cases d
 case h_22 fop args N j=>
  simp[Qu,Qm]at d
  let⟨xs,hxs,d⟩:=d
  have hr:=h.dZ hxs;have V:args.map a.eval=(args.toList.map a.eval).toArray:=by rw[<-qa3,qaq]
  split at d
  .rename_i f;injection d with d
   subst d;simp[exec]at q
   let⟨hen,H⟩:=VA hΓ h R hr q
   exact Vz (by simp[execOp,j,resolve,Act.eval,Deferred.ofValue,invoke,V,pw hen]) H m u A
  .simp[Qm,Qk]at d;obtain⟨fv,hfv,rfl⟩:=d;have rf:=h.ke hfv;simp[exec]at q;split at q
   .rename_i f caps ef;rw[ef]at rf
    let⟨vs,hv,hrc⟩:=rf.za
    let⟨hen,H⟩:=VA hΓ h R (hr.append hrc) q
    refine Vz ?_ H m u A;simp[execOp,j,resolve,hv,Deferred.ofValue,QY,qaj,qac,invoke,V];simp[pw hen]
   .rename_i f caps ef;rw[ef]at rf
    let⟨vs,hv,hrc⟩:=rf.VB
    let⟨hen,H⟩:=VA hΓ h R (hrc.append hr) q
    refine Vz ?_ H m u A;simp[execOp,j,resolve,hv,Deferred.ofValue,QY,qaj,qac,invoke,V];simp[pw hen]
   .cases q
 case h_23 b args N j=>
  split at d
  .rename_i y t D I;have V:args=#[y]:=by rw[<-qaq (xs:=args),D]
   have U:N=#[t]:=by rw[<-qaq (xs:=N),I]
   subst V U;split at d
   .rename_i B;simp[Qu,Qm,Qk]at d;obtain⟨F,p,rfl⟩:=d;exact(alm h j B p q).wp m u A
   .rename_i e B;simp[Qu,Qm,Qk]at d;obtain⟨F,p,rfl⟩:=d;exact(amM h j B p q).wp m u A
   .cases d
  .rename_i y z t t' D I;have V:args=#[y,z]:=by rw[<-qaq (xs:=args),D]
   have U:N=#[t,t']:=by rw[<-qaq (xs:=N),I]
   subst V U;split at d
   .rename_i e B;simp only[Qu,Qm]at d;obtain⟨i,hi,zv,hzv,d⟩:=d;split at d
    .rename_i U;obtain⟨rfl,b2,b3⟩:=U;simp[Qm,Qk]at d;obtain⟨F,p,J,r,rfl⟩:=d
     cases hf:aho hs o with
     |false=>rw[hf]at q;exact(ahT h R j B hi hzv b2 b3 p r q).wp m u A
     |true=>rw[hf]at q;obtain⟨id,aw,es,g1,rfl,rfl,g2⟩:=ag9 q;exact((ahT h R j B hi hzv b2 b3 p r g1).EN g2).wp m u A
    .cases d
   .cases d
  .rename_i y t D I;have V:args=#[y]:=by rw[<-qaq (xs:=args),D]
   have U:N=#[t]:=by rw[<-qaq (xs:=N),I]
   subst V U;split at d
   .rename_i e B;simp[Qu,Qm,Qk]at d;obtain⟨i,hi,z,r,F,p,rfl⟩:=d;exact(ajp h j B hi r p q).wp m u A
   .cases d
  .rename_i y z D;have V:args=#[y,z]:=by rw[<-qaq (xs:=args),D]
   subst V;simp[Qu,Qm,Qk]at d;obtain⟨F,p,J,r,rfl⟩:=d;exact(Zu (mx:=false) h (by simpa using j) p r q).wp m u A
  .rename_i y z D;have V:args=#[y,z]:=by rw[<-qaq (xs:=args),D]
   subst V;simp[Qu,Qm,Qk]at d;obtain⟨F,p,J,r,rfl⟩:=d;exact(Zu (mx:=true) h (by simpa using j) p r q).wp m u A
  .cases d
 case h_24 t y i j=>
  split at d
  .rename_i fs B;split at d
   .rename_i f hf;simp[Qu,Qm,Qk]at d;obtain⟨n,R,F,p,rfl⟩:=d;exact(amN h j B hf R p q).wp m u A
   .cases d
  .cases d
 case h_25=>cases d
end
end
section
open Go.RowKit
def yq(P:Pr)(hs:Z Nat)(ops:Array Oper)(o:Oper):Y SG:=
 match Hv P hs o with
 |none=>none
 |some s=>
  match o.guard with
  |none=>some ⟨o.dst,none,s⟩
  |some (j,want)=>
   match ops[j]? with
   |none=>none
   |some b=>
    match b.dst with
    |none=>none
    |some t=>some ⟨o.dst,some (t,want),s⟩
section
variable{P:Pr}{E:En}{S:St}{a:Act}{w:Wo}{L:Nat->Va}{Γ:sF}{hs:Z Nat}
def Na{ops:Array Oper}{o:Oper}{g:SG}(h:yq P hs ops o=some g):Hv P hs o=some g.op/\g.d=o.dst/\
  ((o.guard=none/\g.g=none)\/∃j b c t,o.guard=some (j,b)/\ops[j]?=some c/\c.dst=some t/\g.g=some (t,b)):=by
 unfold yq at h
 grind
def VM{ops:Array Oper}{o:Oper}{g:SG}(h:Rel E S a w L)(m:yq P hs ops o=some g){b:Bool}(c:g.wanted S=some b):Region.wanted o (yielded ops a.tmps)=b:=by
 let⟨_,_,l⟩:=Na m
 unfold SG.wanted at c;rcases l with⟨h1,f⟩|⟨j,want,r,t,h1,f,k,p⟩
 .rw[f]at c;injection c with c
  subst c;simp[Region.wanted,h1]
 .rw[p]at c;simp only at c;have e:=h.env t;split at c
  .rename_i q i;rw[i]at e;have hv:=e.qC;injection c with c
   subst c
   have:a.tmps[t]?=some (.bool q):=by
    rw[Q4]at hv
    cases d:a.tmps[t]? with
    |none=>rw[d]at hv;simp[undef]at hv
    |some v=>rw[d]at hv;simp at hv;rw[hv]
   simp[Region.wanted,h1,yielded,f,k,this]
  .rename_i i;rw[i]at e;have hv:=e.ad3;injection c with c
   subst c
   have:yielded ops a.tmps j=none:=by
    simp[yielded,f,k,Qa];rw[Q4]at hv
    cases d:a.tmps[t]? with
    |none=>rfl
    |some v=>rw[d]at hv;simp at hv;rw[hv];rfl
   simp[Region.wanted,h1,this]
  .cases c
def Bg(j:rE P Γ){ops:Array Oper}{o:Oper}{g:SG}(d:yq P hs ops o=some g)(h:Rel E S a w L){nid:Nat}(m:nid<S.N)(k:∀t,o.dst=some t->E.can t){S':St}(hs:zT Γ nid S g=some S'){K:Act->Wo->Prop}{Q:Exit->Act->Wo->Prop}
  (i:∀a' w' l,Rel E S' a' w' l->K a' w'):if Region.wanted o (yielded ops a.tmps)=true then o.wpIn (WF E.rd) 0 P a w K Q else(∀f,o.about P w a.eval=some f->(WF E.rd).fn f)/\K (a.put o.dst undef) w:=by
 let⟨e,c,_⟩:=Na d
 unfold zT at hs;split at hs
 .rename_i b;rw[VM h d b,Qe rfl];simp only[Qq]at hs
  grind [adi]
 .rename_i b;rw[VM h d b,Qg t_];injection hs with hs
  subst hs;rw[c]at i;exact⟨λ_ _=>trivial,i _ _ _ (h.acM k .undef)⟩
 .cases hs
def ahv{nid:Nat}{g:SG}{S':St}(hs:zT Γ nid S g=some S'):S'.N=S.N:=by
 unfold zT at hs;split at hs
 .simp only[Qq]at hs;obtain⟨p,_,rfl⟩:=hs;rfl
 .cases hs;rfl
 .cases hs
def JG(c:rE P Γ){ops:Array Oper}:∀(l:Z Oper) (d:Z SG) (nid:Nat) (S S':St) (a:Act) (w:Wo) (L:Nat->Va),l.mapM (yq P hs ops)=some d->Rel E S a w L->nid+l.length<=S.N->
  (∀o∈l,∀t,o.dst=some t->E.can t)->Ej Γ nid d S=some S'->∀{Q:Exit->Act->Wo->Prop},(∀a' w' p,Rel E S' a' w' p->Q .normal a' w')->wpListIn (WF E.rd) 0 P ops Q l a w
 |[],d,nid,S,S',a,w,L,hm,h,k,i,b,Q,j=>by simp at hm;subst hm;simp[Ej,Qk]at b;subst b;exact j a w L h
 |o::l,d,nid,S,S',a,w,L,hm,h,k,i,b,Q,j=>by
  simp[qaa,Qu,Qm,qaf,Qk]at hm;obtain⟨g,r,m,f,rfl⟩:=hm;simp[Ej]at b;split at b
  .rename_i y hs;refine qa5 λK s=> ?_
   refine Bg c r h (by simp at k;omega) (i o t_) hs (λa' w' p u=>s _ _ ?_)
   exact JG c l m (nid+1) y S' a' w' p f u (by rw[ahv hs];simp at k;omega) (λq e=>i q (by simp[e])) b j
  .cases b
inductive SC where
 |skip
 |vW (ops:List SG)
 |tT (un:List (Nat×Nat)) (ops:List SG)
 |seq (x y:SC)
 |cond (c:bD) (x y:SC)
 |block (id:Nat) (c:SC)
 |loop (c:SC)
 |Iz (g:bD) (ps:List Nat) (x y:SC)
 |exit (id:Nat)
 |ret
def oo:Code->Z Nat
 | .region _ ops _=>ops.toList.filterMap (·.dst)
 | .seq x y| .cond _ x y=>oo x++oo y
 | .block _ c| .loop c=>oo c
 | .rangeFunc _ ps x y=>ps.toList++oo x++oo y
 |_=>[]
def AF:Code->Bool
 | .seq x y| .cond _ x y=>AF x&&AF y
 | .block _ c| .loop c=>AF c
 | .rangeFunc ..=>false
 |_=>true
def HG(E:En)(c:Code):Prop:=(∀t∈oo c,E.kt t=none)/\((E.rd=none/\E.nd=false)\/AF c=true)
def HG.anI{E:En}{x y:Code}(h:HG E (.seq x y)):HG E x:=⟨λt b=>h.1 t (List.mem_append_left _ b),h.2.imp id λe=>by simp[AF,Qi]at e;exact e.1⟩
def HG.anH{E:En}{x y:Code}(h:HG E (.seq x y)):HG E y:=⟨λt b=>h.1 t (List.mem_append_right _ b),h.2.imp id λe=>by simp[AF,Qi]at e;exact e.2⟩
def HG.ah1{E:En}{c:Od}{x y:Code}(h:HG E (.cond c x y)):HG E x:=⟨λt b=>h.1 t (List.mem_append_left _ b),h.2.imp id λe=>by simp[AF,Qi]at e;exact e.1⟩
def HG.ah0{E:En}{c:Od}{x y:Code}(h:HG E (.cond c x y)):HG E y:=⟨λt b=>h.1 t (List.mem_append_right _ b),h.2.imp id λe=>by simp[AF,Qi]at e;exact e.2⟩
def ZW{E:En}{id:Nat}{ops:Array Oper}{d:Bool}{nt:Nat}(g:E.nt=nt)(e:HG E (.region id ops d))(f:∀o∈ops.toList,∀t,o.dst=some t->t<nt):∀o∈ops.toList,∀t,o.dst=some t->E.can t:=
 λo c t b=>⟨by rw[g];exact f o c t b,e.1 t (List.mem_filterMap.2 ⟨o,c,b⟩)⟩
def V(P:Pr)(nt:Nat)(c:Code)(Q:Exit->St->Prop)(S:St):Prop:=
 ∀(E:En),E.nt=nt->HG E c->∀(a:Act) (w:Wo) (L:Nat->Va),Rel E S a w L->c.wpIn (WF E.rd) 0 P (λe a' w'=>∃S' b,Rel E S' a' w' b/\Q e S') a w
def V.mono{nt:Nat}{c:Code}{Q b:Exit->St->Prop}(h:V P nt c Q S)(f:∀e S,Q e S->b e S):V P nt c b S:=
 λE i g a w L d=>qaB (h E i g a w L d) λ_ _ _ ⟨S',k,h1,j⟩=>⟨S',k,h1,f _ _ j⟩
def UB(K:St->Prop)(Q:Exit->St->Prop):Exit->St->Prop
 | .normal,S=>K S
 | .exit i,S=>Q (.exit i) S
 | .goto l,S=>Q (.goto l) S
 | .ret,S=>Q .ret S
 | .panic c,S=>Q (.panic c) S
 | .outgrown,S=>Q .outgrown S
def Jb(id:Nat)(Q:Exit->St->Prop):Exit->St->Prop
 | .exit i,S=>if i=id then Q .normal S else Q (.exit i) S
 | .normal,S=>Q .normal S
 | .goto l,S=>Q (.goto l) S
 | .ret,S=>Q .ret S
 | .panic c,S=>Q (.panic c) S
 | .outgrown,S=>Q .outgrown S
def alM{nt:Nat}{Q:Exit->St->Prop}(h:Q .normal S):V P nt .skip Q S:=λ_ _ _ _ _ L b=>wpIn_skip ⟨S,L,b,h⟩
def alN{nt id:Nat}{Q:Exit->St->Prop}(h:Q (.exit id) S):V P nt (.exit id) Q S:=λ_ _ _ _ _ L b=>wpIn_exit ⟨S,L,b,h⟩
def amZ{nt:Nat}{Q:Exit->St->Prop}(h:Q .ret S):V P nt .ret Q S:=λ_ _ _ _ _ L b=>wpIn_ret ⟨S,L,b,h⟩
def amY{nt:Nat}{x y:Code}{Q:Exit->St->Prop}(h:V P nt x (UB (V P nt y Q) Q) S):V P nt (.seq x y) Q S:=λE g f a w L j=>
 qa6 (qaB (h E g f.anI a w L j) λe a' w' ⟨S',d,h1,b⟩=>by
  cases e with
  |normal=>exact b E g f.anH a' w' d h1
  |exit i|goto l|ret|panic c=>exact⟨S',d,h1,b⟩
  |outgrown=>exact⟨S',d,h1,b⟩)
def alO{nt:Nat}{c:Od}{f:bD}{x y:Code}{b:Bool}{Q:Exit->St->Prop}(g:bK c=some f)(i:f.val S= .bool b)(h:V P nt (if b then x else y) Q S):V P nt (.cond c x y) Q S:=λE j e a w L d=>by
 have:=d.ke g;rw[i]at this
 exact qbt this.qC (h E j (by
  cases b
  .exact e.ah0
  .exact e.ah1) a w L d)
def aj1{nt id:Nat}{c:Code}{Q:Exit->St->Prop}(h:V P nt c (Jb id Q) S):V P nt (.block id c) Q S:=λE j g a w L f=>
 wpIn_block (qaB (h E j g a w L f) λe a' w' ⟨S',d,h1,b⟩=>by
  cases e with
  |exit i=>
   simp[Jb]at b;simp only[Exit.inBlock];split
   .rename_i hi;rw[Qe hi]at b;exact⟨S',d,h1,b⟩
   .rename_i hi;rw[Qg hi]at b;exact⟨S',d,h1,b⟩
  |normal|goto l|ret|panic c=>exact⟨S',d,h1,b⟩
  |outgrown=>exact⟨S',d,h1,b⟩)
def z7{α β:Type}{f:α->Y β}:∀{l:Z α} {r:Z β},l.mapM f=some r->r.length=l.length
 |[],r,h=>by simp at h;subst h;rfl
 |x::l,r,h=>by simp[qaa,Qu,Qm,qaf,Qk]at h;obtain⟨y,_,c,b,rfl⟩:=h;simp[z7 b]
def PV.qO(n:Nat):PV->Bool
 | .own id _| .ptr id _ _| .fK id _ _ _ _| .view id _ _ _ _=>decide (id<n)
 | .agg _| .ff _| .bJ _ _| .kP _ _=>false
 |_=>true
def PV.under(n:Nat):PV->Bool
 | .agg cs| .ff cs| .bJ _ cs| .kP _ cs=>cs.all (PV.qO n)
 |x=>x.qO n
def zO.under(n:Nat):zO->Bool
 | .dead=>true
 | .box cs=>cs.all (PV.under n)
 | .row _ _ es=>es.all λe=>e.all (PV.under n)
def bp.qO{M M':Nat->Prop}{G G':Gh}{x:PV}{v:Va}(f:x.qO G'.N=true)(r:∀b,M' b->M b)(s:G'.L=G.L)(l:∀id,id<G'.N->G'.V id=G.V id)(h:bp w M G x v):bp w M' G' x v:=by
 have hs:dp w w M M':=(dp.of λ_ t=>λq=>t (r _ q))
 cases h with
 |any=>exact .any _
 |undef=>exact .undef
 |int=>exact .int _ _
 |bool=>exact .bool _
 |iD=>first|exact .iD _|simp[PV.closed]at J
 |str=>exact .str _
 |nj=>exact .nj
 |eV=>exact .eV
 |bJ|kP|agg|ff=>simp[PV.qO]at f
 |ptr id aw off a A g h=>simp[PV.qO,Qw]at f;exact .ptr _ _ _ _ f (by rw[l id f];exact g) (λe=>by rw[s];exact h (by rw[e,l id f]))
 |ref cs ad vs y d h=>exact .ref cs ad vs y (λi u j=>⟨(d i u j).1,λq=>(d i u j).2 (r _ q)⟩) (λi p u m j=>(h i p u m j).mono hs (Gh.le.refl _))
 |sl es ad c k vs hk y d h D t=>exact .sl es ad c k vs hk y (λi u j=>⟨(d i u j).1,λq=>(d i u j).2 (r _ q)⟩) (λi p u m j=>(h i p u m j).mono hs (Gh.le.refl _)) D t
 |slnil=>exact .slnil
 |own id aw a n c A g h=>simp[PV.qO,Qw]at f;exact .own _ _ _ _ _ f (by rw[l id f];exact g) (λe=>by rw[s];exact h (by rw[e,l id f]))
 |fK id aw k i off a A g h=>simp[PV.qO,Qw]at f;exact .fK _ _ _ _ _ _ f (by rw[l id f];exact g) (λe=>by rw[s];exact h (by rw[e,l id f]))
 |view id aw k lo n a c A g h=>simp[PV.qO,Qw]at f;exact .view _ _ _ _ _ _ _ f (by rw[l id f];exact g) (λe=>by rw[s];exact h (by rw[e,l id f]))
 |og ks us b es I F B hk hv h1 H=>exact .og ks us b es I F (λq=>B (r _ q)) hk hv (λi p e m z=>(h1 i p e m z).mono hs (Gh.le.refl _)) (λi p e m z=>(H i p e m z).mono hs (Gh.le.refl _))
def bp.under{M M':Nat->Prop}{G G':Gh}{x:PV}{v:Va}(d:x.under G'.N=true)(j:∀b,M' b->M b)(k:G'.L=G.L)(g:∀id,id<G'.N->G'.V id=G.V id)(h:bp w M G x v):bp w M' G' x v:=by
 have go:∀{cs:Z PV} {vs:Z Va},cs.all (PV.qO G'.N)=true->bo w M G cs vs->bo w M' G' cs vs:=λl h=>⟨h.1,λi y v e hv=>(h.2 i y v e hv).qO (Qn.1 l y (QL e)) j k g⟩
 cases x with
 |agg cs=>obtain⟨vs,rfl,c⟩:=h.vr;have:=go (by simpa[PV.under]using d) c;exact .agg _ _ this.1 this.2
 |ff cs=>obtain⟨vs,rfl,c⟩:=h.Is;have:=go (by simpa[PV.under]using d) c;exact .ff _ _ this.1 this.2
 |bJ f cs=>obtain⟨vs,rfl,c⟩:=h.za;have:=go (by simpa[PV.under]using d) c;exact .bJ _ _ _ this.1 this.2
 |kP f cs=>obtain⟨vs,rfl,c⟩:=h.VB;have:=go (by simpa[PV.under]using d) c;exact .kP _ _ _ this.1 this.2
 |_=>exact h.qO (by simpa[PV.under]using d) j k g
def St.cut(S:St)(b:Z Nat)(n:Nat):St:=
 {env:=λt=>if t∈b then S.env t else .any,H:=λid=>if id<n then S.H id else⟨0,.dead⟩,N:=n}
structure adQ (S:St) (ts:List Nat) (n:Nat):Prop where
 N:n<=S.N
 env:∀t∈ts,(S.env t).under n=true
 H:∀id,id<n->(S.H id).c.under n=true
def Rel.cut(h:Rel E S a w L){d:Z Nat}{n:Nat}(p:adQ S d n):Rel E (S.cut d n) a w L:=by
 have N:∀b,bn E (S.cut d n) L b->bn E S L b:=by
  rintro b (⟨id,c,f,g⟩|g)
  .simp[St.cut]at c f;rw[Qe c]at f;exact .inl ⟨id,QW c p.N,f,g⟩
  .exact .inr g
 have X:∀id,id<((S.cut d n).gh L).N->((S.cut d n).gh L).V id=(S.gh L).V id:=λid c=>by simp[St.gh,St.cut]at c ⊢;rw[Qe c]
 have go:∀{cs:Z PV} {vs:Z Va},(∀y∈cs,y.under n=true)->bo w (bn E S L) (S.gh L) cs vs->bo w (bn E (S.cut d n) L) ((S.cut d n).gh L) cs vs:=λp h=>⟨h.1,λi y v u hv=>bp.under (G:=S.gh L) (G':=(S.cut d n).gh L) (p y (QL u)) N rfl X (h.2 i y v u hv)⟩
 refine⟨h.defers,h.size,λt=> ?_,λid c=> ?_,λi j b hi H s r K J=> ?_,λid c=> ?_,h.fr,λg m q=> ?_,h.an.1.trans (.of λb hn hm=>hn (N b hm)),λid b c f g hr=> ?_,λb R=>⟨(h.an.2.2 b R).1,(h.an.2.2 b R).2.1,λid c f=> ?_⟩⟩
 rotate_left 5
 .simp[St.cut]at c f;rw[Qe c]at f;exact h.an.2.1 id b (QW c p.N) f g hr
 .simp[St.cut]at c f;rw[Qe c]at f;exact(h.an.2.2 b R).2.2 id (QW c p.N) f
 .by_cases F:t∈d
  .have e:(S.cut d n).env t=S.env t:=by simp[St.cut,F]
   rw[e];exact bp.under (G:=S.gh L) (G':=(S.cut d n).gh L) (p.env t F) N rfl X (h.env t)
  .have e:(S.cut d n).env t= .any:=by simp[St.cut,F]
   rw[e];exact .any _
 .simp[St.cut]at c;have I:((S.cut d n).H id).c=(S.H id).c:=by simp[St.cut,c]
  rw[I];have B:=h.obj id (QW c p.N);have g:=p.H id c
  cases A:(S.H id).c with
  |dead=>trivial
  |box cs=>
   rw[A]at B g
   let⟨b,W,T,h1,V,U,h4⟩:=B
   exact⟨b,W,T,h1,V,U,go (λy u=>Qn.1 g y u) h4⟩
  |row e k es=>
   rw[A]at B g
   let⟨vs,h1,V,U⟩:=B
   refine⟨vs,h1,V,go (λy u=> ?_) U⟩
   let⟨l,f,D⟩:=List.mem_flatten.1 u
   exact Qn.1 (Qn.1 g l f) y D
 .simp[St.cut]at hi H s r;rw[Qe hi]at s;rw[Qe H]at r;exact h.apart i j b (QW hi p.N) (QW H p.N) s r K J
 .grind [St.cut]
 .simp[St.cut]at m q
  by_cases z:0<n
  .rw[Qe z]at m q;exact h.CB g m q
  .rw[Qg z]at m;cases m
def amA(b:Z Nat)(n:Nat)(I:Nat->St->Prop)(m:Nat)(Q:Exit->St->Prop):Exit->St->Prop
 | .normal,S=>adQ S b n/\∃m',m'<m/\I m' (S.cut b n)
 | .exit i,S=>Q (.exit i) S
 | .goto l,S=>Q (.goto l) S
 | .ret,S=>Q .ret S
 | .panic c,S=>Q (.panic c) S
 | .outgrown,S=>Q .outgrown S
end
end
section
open Go.RowKit
def bD.dD:bD->Z Nat
 | .tmp t=>[t]
 | .Bp _=>[]
def cU.dD:cU->Z Nat
 | .sw x| .box x| .Ii x| .load _ x| .Dv _ x| .not x| .conv _ x| .len _ x| .Dn x| .Ic _ x| .B6 _ x
 | .clear _ _ x
 | .Pj _ _ x=>x.dD
 | .pick c x y=>c.dD++x.dD++y.dD
 | .alloc _=>[]
 | .store _ p x=>p.dD++x.dD
 | .build _ ps=>ps.flatMap λp=>p.2.2.dD
 | .Ua _ _ _ _ ps=>ps.flatMap λp=>p.2.dD
 | .wu _ x i| .DB _ _ x i=>x.dD++i.dD
 | .bin _ x y| .nF _ x y| .I6 _ _ x y| .M5 _ x y| .yb _ x y| .Ik _ _ _ _ x y
 =>x.dD++y.dD
 | .call _ xs=>xs.flatMap bD.dD
 | .wC f xs=>f.dD++xs.flatMap bD.dD
 | .cY _ _ _ _ s x=>s.dD++x.dD
 | .O7 _ b| .O8 _ b=>b.flatMap bD.dD
 | .SR _ _ _ _ l c=>l.dD++c.dD
 | .LM _ x lo hi=>x.dD++(match lo with|some l=>l.dD|none=>[])++(match hi with|some h=>h.dD|none=>[])
def SG.dD(g:SG):Z Nat:=(match g.g with|some (t,_)=>[t]|none=>[])++g.op.dD
def cU.vb:cU->Bool
 | .sw _| .Ii _| .pick ..| .bin ..| .nF ..| .I6 ..| .M5 ..| .not _| .conv ..| .Ic ..| .O7 ..| .O8 ..| .build ..| .yb ..| .Ik ..
 | .Pj ..| .len true _=>false
 |_=>true
def zF:PV->Z Nat
 | .own id _| .ptr id _ _| .fK id _ _ _ _| .view id _ _ _ _=>[id]
 |_=>[]
def iS(H:Nat->gU):Nat->PV->Z Nat
 |0,_=>[]
 |n+1,.own id _=>id::(match(H id).c with| .row _ _ es=>es.flatMap (λe=>e.flatMap (iS H n))|_=>[])
 |n+1,.ptr id _ _=>id::(match(H id).c with| .box cs=>cs.flatMap (iS H n)|_=>[])
 |n+1,.agg cs|n+1,.ff cs|n+1,.bJ _ cs|n+1,.kP _ cs=>cs.flatMap (iS H n)
 |_+1,_=>[]
def jy(nid:Nat)(S:St):cU->Z Nat
 | .load _ p| .Dv _ p| .Dn p| .store _ p _=>zF (p.val S)
 | .wu _ x _| .DB _ _ x _| .len false x| .B6 _ x| .LM _ x _ _
 | .clear _ _ x
 =>zF (x.val S)
 | .box _| .alloc _| .Ua ..| .SR ..=>[nid]
 | .cY _ _ _ _ s x=>nid::(zF (s.val S)++zF (x.val S))
 | .call _ xs=>nid::(xs.map (·.val S)).flatMap (iS S.H 9)
 | .wC f xs=>nid::(iS S.H 10 (f.val S)++(xs.map (·.val S)).flatMap (iS S.H 9))
 |_=>[]
section
variable{Γ:sF}{S S':St}{nid:Nat}
theorem bD.val_congr{x:bD}(h:∀t∈x.dD,S'.env t=S.env t):x.val S'=x.val S:=by
 cases x with
 |tmp t=>exact h t (by simp[bD.dD])
 |Bp v=>rfl
theorem BC{xs:Z bD}(h:∀t∈xs.flatMap bD.dD,S'.env t=S.env t):xs.map (·.val S')=xs.map (·.val S):=
 qak λx b=>bD.val_congr λt c=>h t (qat.2 ⟨x,b,c⟩)
def Zv{H b:Nat->gU}{ex:Y Nat}:∀(n:Nat) (x:PV),(∀id∈iS H n x,b id=H id)->fz b ex n x=fz H ex n x
 |0,x,_=>by cases x<;>simp[fz]
 |n+1,x,h=>by
  have go:∀cs:Z PV,(∀id∈cs.flatMap (iS H n),b id=H id)->cs.map (fz b ex n)=cs.map (fz H ex n):=λcs c=>qak λy d=>Zv n y λid g=>c id (qat.2 ⟨y,d,g⟩)
  cases x with
  |own id aw=>
   have j:b id=H id:=h id (by simp[iS])
   simp[fz,j];split
   .rfl
   .cases c:(H id).c with
    |row e k es=>
     simp only;congr 1;refine qak λy d=>go y λi hi=>h i ?_
     simp only[iS,c,Qv];exact .inr (qat.2 ⟨y,d,hi⟩)
    |dead|box cs=>rfl
  |ptr id aw off=>
   have j:b id=H id:=h id (by simp[iS])
   simp[fz,j];split
   .rfl
   .cases c:(H id).c with
    |box cs=>simp only;rw[go cs λi hi=>h i (by simp only[iS,c,Qv];exact .inr hi)]
    |dead|row e k es=>rfl
  |agg cs|ff cs|bJ f cs=>simp only[fz];rw[go cs (by simpa[iS]using h)]
  |_=>simp[fz]
theorem Hq{H c:Nat->gU}{ex:Y Nat}{xs:Z PV}(h:∀id∈xs.flatMap (iS H 9),c id=H id):xs.map (fz c ex 9)=xs.map (fz H ex 9):=
 qak λy d=>Zv 9 y λid b=>h id (qat.2 ⟨y,d,b⟩)
theorem Nh{f:FI}{args:Z PV}(b:S'.H nid=S.H nid)(h:∀id∈args.flatMap (iS S.H 9),S'.H id=S.H id):pF Γ nid S' f args=pF Γ nid S f args:=by
 have bor:∀(m:Model) (e k:Nat),Db m e k S' args=Db m e k S args:=by
  intro m e k;unfold Db
  cases args with
  |nil=>rfl
  |cons x rest=>
   cases x with
   |own id aw=>grind [iS,fz,Hq]
   |_=>rfl
 have T7:∀(m:Model) (e k:Nat),Da m e k S' args=Da m e k S args:=by
  intro m e k;unfold Da
  cases args with
  |nil=>rfl
  |cons x rest=>
   cases x with
   |own id aw=>grind [iS,fz,Hq]
   |_=>rfl
 unfold pF
 cases hm:Γ f with
 |none=>rfl
 |some m=>
  simp[bor,T7,Ja,b,Hq (ex:=none) h];split
  .rfl
  .rfl
  .rfl
  split
  .rfl
  split
  .cases d:args[m.pos]? with
   |none=>rfl
   |some x=>
    cases x with
    |ptr id aw off=>
     cases off with
     |zero=>
      have c:PV.ptr id aw 0∈args:=QL d;have g:S'.H id=S.H id:=h id (qat.2 ⟨_,c,by simp[iS]⟩)
      grind [cutAt,fz,Hq]
     |succ k=>rfl
    |_=>rfl
  .rfl
def MZ:∀(ps:Z (Nat×Nat×bD)) (cs:Z PV),(∀t∈ps.flatMap (λp=>p.2.2.dD),S'.env t=S.env t)->vn S' cs ps=vn S cs ps
 |[],cs,_=>rfl
 |(off,n,x)::ps,cs,h=>by
  have c:x.val S'=x.val S:=bD.val_congr λt b=>h t (by simp[b])
  simp[vn,c];split
  .exact MZ ps _ λt b=>h t (by simp only[List.flatMap_cons,QA];exact .inr b)
  .rfl
def M1(k:Nat):∀(ps:Z (Nat×bD)) (es:Z (Z PV)),(∀t∈ps.flatMap (λp=>p.2.dD),S'.env t=S.env t)->yl S' k es ps=yl S k es ps
 |[],es,_=>rfl
 |(i,x)::ps,es,h=>by
  have c:x.val S'=x.val S:=bD.val_congr λt b=>h t (by simp[b])
  simp[yl,c];split
  .exact M1 k ps _ λt b=>h t (by simp only[List.flatMap_cons,QA];exact .inr b)
  .rfl
theorem Ih{x:PV}(h:∀id∈zF x,S'.H id=S.H id):jY S' x=jY S x:=by
 cases x with
 |own id aw|view id aw k lo n=>have b:S'.H id=S.H id:=h id (by simp[zF]);simp[jY,b]
 |_=>rfl
def SD{y:Y bD}{d:Int}(h:∀l,y=some l->l.val S'=l.val S):xf S' y d=xf S y d:=by
 cases y with
 |none=>rfl
 |some l=>simp[xf,h l rfl]
theorem adj{op:cU}(j:∀t∈op.dD,S'.env t=S.env t)(g:∀id∈jy nid S op,S'.H id=S.H id):exec Γ nid S' op=exec Γ nid S op:=by
 cases op with
 |sw x|not x|conv k x|Pj n off x|Ic i x=>simp[exec,bD.val_congr (x:=x) j]
 |pick c x y|bin op x y|nF n x y|M5 n x y|I6 n ks x y|Ik e n len k x y=>grind [bD.val_congr,cU.dD,exec]
 |box x=>
  have q:x.val S'=x.val S:=bD.val_congr j
  grind [jy,exec]
 |Ii x=>have q:x.val S'=x.val S:=bD.val_congr j;simp[exec,q]
 |alloc z=>grind [jy,exec]
 |load n p=>
  have q:p.val S'=p.val S:=bD.val_congr j;simp[exec,q];simp[jy]at g
  cases u:p.val S with
  |ptr id aw off|fK id aw k i off=>rw[u]at g;have r:S'.H id=S.H id:=g id (by simp[zF]);simp[r]
  |_=>rfl
 |store n p x=>
  have q:p.val S'=p.val S:=bD.val_congr λt h=>j t (by simp[cU.dD,h])
  have r:x.val S'=x.val S:=bD.val_congr λt h=>j t (by simp[cU.dD,h])
  simp[exec,q,r];simp only[jy]at g
  cases u:p.val S with
  |ptr id aw off|fK id aw k i off=>rw[u]at g;have A:S'.H id=S.H id:=g id (by simp[zF]);simp[A]
  |_=>rfl
 |build z ps=>simp[exec,MZ ps z j]
 |Ua m e k z ps=>
  have r:S'.H nid=S.H nid:=g nid (by simp[jy])
  simp[exec,M1 k ps z j,r]
 |Dv off p=>
  have q:p.val S'=p.val S:=bD.val_congr j;simp[exec,q];simp[jy]at g
  cases u:p.val S with
  |ptr id aw off|fK id aw k i off=>rw[u]at g;have r:S'.H id=S.H id:=g id (by simp[zF]);simp[r]
  |_=>rfl
 |wu k x i=>
  have q:x.val S'=x.val S:=bD.val_congr λt h=>j t (by simp[cU.dD,h])
  have r:i.val S'=i.val S:=bD.val_congr λt h=>j t (by simp[cU.dD,h])
  simp[exec,q,r];simp[jy]at g
  cases u:x.val S with
  |own id aw|view id aw k lo n=>rw[u]at g;have A:S'.H id=S.H id:=g id (by simp[zF]);simp[A]
  |_=>rfl
 |DB k len x i=>
  have q:x.val S'=x.val S:=bD.val_congr λt h=>j t (by simp[cU.dD,h])
  have r:i.val S'=i.val S:=bD.val_congr λt h=>j t (by simp[cU.dD,h])
  simp[exec,q,r];simp[jy]at g
  cases u:x.val S with
  |ptr id aw off=>rw[u]at g;have A:S'.H id=S.H id:=g id (by simp[zF]);simp[A]
  |_=>rfl
 |len b x=>
  have q:x.val S'=x.val S:=bD.val_congr j
  cases b with
  |true=>simp[exec,q]
  |false=>simp[exec,q];rw[Ih (by simpa[jy]using g)]
 |call f xs=>simp only[exec,BC j];exact Nh (g nid (by simp[jy])) λid D=>g id (by simp only[jy,Qv];exact .inr D)
 |wC K xs=>
  have q:K.val S'=K.val S:=bD.val_congr λt h=>j t (by simp[cU.dD,h])
  have r:xs.map (·.val S')=xs.map (·.val S):=BC λt h=>j t (by simp only[cU.dD,QA];exact .inr h)
  simp[exec,q,r];simp[jy]at g
  cases u:K.val S with
  |bJ f B|kP f first=>grind [Nh,iS]
  |_=>rfl
 |cY z e k b s x=>
  have q:s.val S'=s.val S:=bD.val_congr λt h=>j t (by simp[cU.dD,h])
  have r:x.val S'=x.val S:=bD.val_congr λt h=>j t (by simp[cU.dD,h])
  have A:S'.H nid=S.H nid:=g nid (by simp[jy])
  have J:jY S' (x.val S)=jY S (x.val S):=Ih λid D=>g id (by simp[jy,D])
  simp[exec,q,r,A,J]
  cases u:s.val S with
  |own id aw=>have I:S'.H id=S.H id:=g id (by simp[jy,u,zF]);simp[I]
  |_=>rfl
 |Dn x=>
  have q:x.val S'=x.val S:=bD.val_congr j;simp[exec,q];simp[jy]at g
  cases u:x.val S with
  |ptr id aw off=>rw[u]at g;have r:S'.H id=S.H id:=g id (by simp[zF]);simp[r]
  |_=>rfl
 |O7 f B|O8 f B=>simp[exec,BC j]
 |SR e k b z l c=>grind [bD.val_congr,cU.dD,jy,exec]
 |LM k x lo hi=>
  have q:x.val S'=x.val S:=bD.val_congr λt h=>j t (by simp[cU.dD,h])
  have r:∀l,lo=some l->l.val S'=l.val S:=λl F=>bD.val_congr λt h=>j t (by simp[cU.dD,F,h])
  have A:∀l,hi=some l->l.val S'=l.val S:=λl F=>bD.val_congr λt h=>j t (by simp[cU.dD,F,h])
  simp[jy]at g;simp[exec,q];have J:∀d,xf S' lo d=xf S lo d:=λd=>SD r
  have I:∀d,xf S' hi d=xf S hi d:=λd=>SD A
  cases u:x.val S with
  |own id aw|view id aw k lo n=>rw[u]at g;have H:S'.H id=S.H id:=g id (by simp[zF]);simp[J,I,H]
  |sl es=>cases lo<;>cases hi<;>simp_all
  |_=>rfl
 |clear k z x=>
  have q:x.val S'=x.val S:=bD.val_congr j;simp[jy]at g;simp[exec,q]
  cases u:x.val S with
  |view id aw k lo n=>rw[u]at g;have H:S'.H id=S.H id:=g id (by simp[zF]);simp[H]
  |_=>rfl
 |yb m x y=>
  have q:x.val S'=x.val S:=bD.val_congr λt h=>j t (by simp[cU.dD,h])
  have r:y.val S'=y.val S:=bD.val_congr λt h=>j t (by simp[cU.dD,h])
  simp[exec,q,r]
 |B6 n x=>
  have q:x.val S'=x.val S:=bD.val_congr j
  grind [jY,Ih,jy,exec]
def yX{α β:Type}{f g:α->Z β}:∀{l:Z α},(∀x∈l,f x=g x)->l.flatMap f=l.flatMap g
 |[],_=>rfl
 |x::l,h=>by simp[List.flatMap_cons];rw[h x t_,yX λy b=>h y (by simp[b])]
theorem JI{H b:Nat->gU}:∀(n:Nat) (x:PV),(∀id∈iS H n x,b id=H id)->iS b n x=iS H n x
 |0,x,_=>by simp[iS]
 |n+1,x,h=>by
  have go:∀cs:Z PV,(∀id∈cs.flatMap (iS H n),b id=H id)->cs.flatMap (iS b n)=cs.flatMap (iS H n):=λcs c=>yX λy d=>JI n y λid g=>c id (qat.2 ⟨y,d,g⟩)
  cases x with
  |own id aw=>
   have j:b id=H id:=h id (by simp[iS])
   simp only[iS,j]
   cases c:(H id).c with
   |row e k es=>
    simp only;congr 1;refine yX λy d=>go y λi hi=>h i ?_
    simp only[iS,c,Qv];exact .inr (qat.2 ⟨y,d,hi⟩)
   |dead|box cs=>rfl
  |ptr id aw off=>
   have j:b id=H id:=h id (by simp[iS])
   simp only[iS,j]
   cases c:(H id).c with
   |box cs=>simp only;rw[go cs λi hi=>h i (by simp only[iS,c,Qv];exact .inr hi)]
   |dead|row e k es=>rfl
  |agg cs|ff cs|bJ f cs|kP f cs=>simp[iS];exact go cs (by simpa[iS]using h)
  |_=>simp[iS]
theorem O1{H c:Nat->gU}{n:Nat}{xs:Z PV}(h:∀id∈xs.flatMap (iS H n),c id=H id):xs.flatMap (iS c n)=xs.flatMap (iS H n):=
 yX λy d=>JI n y λid b=>h id (qat.2 ⟨y,d,b⟩)
theorem acx{op:cU}(c:∀t∈op.dD,S'.env t=S.env t)(h:∀id∈jy nid S op,S'.H id=S.H id):jy nid S' op=jy nid S op:=by
 cases op with
 |load n p|Dv off p|Dn p=>simp[jy,bD.val_congr (x:=p) c]
 |store n p x|wu k x i|DB k l x i|cY z e k b s x=>grind [bD.val_congr,cU.dD,jy]
 |B6 n x|clear k z x=>simp[jy,bD.val_congr (x:=x) c]
 |LM k x lo hi=>
  have g:x.val S'=x.val S:=bD.val_congr λt d=>c t (by simp[cU.dD,d])
  simp[jy,g]
 |len b x=>
  cases b with
  |true=>rfl
  |false=>simp[jy,bD.val_congr (x:=x) c]
 |call f xs=>
  simp[jy,BC c]
  grind [O1,jy]
 |wC j xs=>grind [bD.val_congr,cU.dD,BC,jy,JI,O1]
 |_=>rfl
def D4(Γ:sF)(nid:Nat)(S:St)(g:SG):Y (PV×Y (Nat×gU)):=
 match g.wanted S with
 |some true=>exec Γ nid S g.op
 |some false=>some (.undef,none)
 |none=>none
def Lb(nid:Nat)(S:St)(g:SG):Z Nat:=
 match g.wanted S with
 |some true=>jy nid S g.op
 |_=>[]
def aa1(g:SG):zT Γ nid S g=(D4 Γ nid S g).map λp=>S.cY g.d p.1 p.2:=by grind [zT,D4]
theorem LC{g:SG}(b:∀t∈g.dD,S'.env t=S.env t):g.wanted S'=g.wanted S:=by grind [SG.wanted,SG.dD]
def WM{g:SG}(b:∀t∈g.dD,S'.env t=S.env t)(c:∀id∈Lb nid S g,S'.H id=S.H id):D4 Γ nid S' g=D4 Γ nid S g:=by grind [D4,LC,Lb,adj,SG.dD]
def WC{g:SG}(b:∀t∈g.dD,S'.env t=S.env t)(c:∀id∈Lb nid S g,S'.H id=S.H id):Lb nid S' g=Lb nid S g:=by grind [Lb,LC,acx,SG.dD]
structure zJ where
 d:Option Nat
 us:List Nat
 rd:List Nat
 wr:Option Nat
structure adO (p q:zJ):Prop where
 d1:∀t,p.d=some t->t∉q.us
 d2:∀t,q.d=some t->t∉p.us
 dd:∀t,p.d=some t->q.d≠some t
 w1:∀i,p.wr=some i->i∉q.rd
 w2:∀i,q.wr=some i->i∉p.rd
 ww:∀i,p.wr=some i->q.wr≠some i
def H9(nid:Nat)(S:St)(g:SG)(p:PV×Y (Nat×gU)):zJ:=⟨g.d,g.dD,Lb nid S g,p.2.map (·.1)⟩
def sn(b:Nat->sF)(base:Nat):Z (Nat×SG)->St->Y (St×Z zJ)
 |[],S=>some (S,[])
 |(i,g)::l,S=>
  match D4 (b i) (base+i) S g with
  |none=>none
  |some p=>
   match sn b base l (S.cY g.d p.1 p.2)with
   |none=>none
   |some (S',c)=>some (S',H9 (base+i) S g p::c)
def St.nG(d:Y Nat)(x:PV)(wr:Y (Nat×gU)){t:Nat}(h:d≠some t):(S.cY d x wr).env t=S.env t:=by
 cases d with
 |none=>rfl
 |some d=>exact du _ _ (λe=>h (by rw[e]))
def St.KD(d:Y Nat)(x:PV)(wr:Y (Nat×gU)){i:Nat}(h:wr.map (·.1)≠some i):(S.cY d x wr).H i=S.H i:=by
 cases wr with
 |none=>rfl
 |some p=>exact du _ _ (λe=>h (by rw[e];rfl))
theorem afM{α:Type}(f:Nat->α){i j:Nat}(x y:α)(h:i≠j):bZ (bZ f i x) j y=bZ (bZ f j y) i x:=by grind [bZ]
def St.aha(d e:Y Nat)(x y:PV)(p q:Y (Nat×gU))(c:∀t,d=some t->e≠some t)(b:∀i,p.map (·.1)=some i->q.map (·.1)≠some i):(S.cY d x p).cY e y q=(S.cY e y q).cY d x p:=by
 unfold St.cY
 grind [afM]
def LY{f:Nat->sF}{base:Nat}:∀(m:Z (Nat×SG)) (i:Nat) (g:SG) (B:Z (Nat×SG)) (S S':St) (s:Z zJ),sn f base (m++(i,g)::B) S=some (S',s)->
  (∀(k:Nat) (fk fi:zJ),k<m.length->s[k]?=some fk->s[m.length]?=some fi->adO fk fi)->
  ∃p,D4 (f i) (base+i) S g=some p/\(∀fi,s[m.length]?=some fi->fi=H9 (base+i) S g p)/\sn f base (m++B) (S.cY g.d p.1 p.2)=some (S',s.eraseIdx m.length)
 |[],i,g,B,S,S',s,h,_=>by
  simp[List.nil_append,sn]at h;split at h
  .cases h
  .rename_i p V;split at h
   .cases h
   .rename_i S1 d N;injection h with h
    injection h with J K
    subst J K;exact⟨p,V,λfi c=>by simp at c;exact c.symm,by simpa using N⟩
 |(x,r)::m,i,g,B,S,S',s,h,hi=>by
  simp[List.cons_append,sn]at h;split at h
  .cases h
  .rename_i px T;split at h
   .cases h
   .rename_i S1 d N;injection h with h
    injection h with J K
    subst J K
    let⟨p,V,X,y⟩:=LY m i g B (S.cY r.d px.1 px.2) S1 d N (λk fk fi hk hfk c=>hi (k+1) fk fi o_ (by simpa using hfk) (by simpa using c))
    have u:m.length<d.length:=by
     have:∀(l:Z (Nat×SG)) (S:St) (S':St) (s:Z zJ),sn f base l S=some (S',s)->s.length=l.length:=by
      intro l
      induction l with
      |nil=>intro S S' s h;simp only[sn,Qk,qaM]at h;rw[<-h.2];rfl
      |cons q l ih=>
       intro S S' s h
       let⟨j,gj⟩:=q
       simp[sn]at h;split at h
       .cases h
       .split at h
        .cases h
        .rename_i S2 fs2 J;injection h with h
         injection h with K h4
         subst h4;simp[ih _ _ _ J]
     rw[this _ _ _ _ N];simp
    have c:=X _ (Qj u);have b:=hi 0 (H9 (base+x) S r px) _ t_ t_ (show(H9 (base+x) S r px::d)[m.length+1]?=some d[m.length]by rw[List.getElem?_cons_succ];exact Qj u)
    rw[c]at b;have he:∀t∈g.dD,S.env t=(S.cY r.d px.1 px.2).env t:=λt R=>(St.nG _ _ _ (λe=>b.d1 t e R)).symm
    have hH:∀id∈Lb (base+i) (S.cY r.d px.1 px.2) g,S.H id=(S.cY r.d px.1 px.2).H id:=λid z=>(St.KD _ _ _ (λe=>b.w1 id e z)).symm
    have U:D4 (f i) (base+i) S g=some p:=(WM he hH).trans V;have W:=WC (nid:=base+i) he hH;have H:∀t∈r.dD,(S.cY g.d p.1 p.2).env t=S.env t:=λt R=>St.nG _ _ _ (λe=>b.d2 t e R)
    have I:∀id∈Lb (base+x) S r,(S.cY g.d p.1 p.2).H id=S.H id:=λid z=>St.KD _ _ _ (λe=>b.w2 id e z)
    have D:D4 (f x) (base+x) (S.cY g.d p.1 p.2) r=some px:=(WM H I).trans T;have F:=WC (nid:=base+x) H I;have A:(S.cY g.d p.1 p.2).cY r.d px.1 px.2=(S.cY r.d px.1 px.2).cY g.d p.1 p.2:=(St.aha _ _ _ _ _ _ b.dd b.ww).symm;refine⟨p,U,λfi hf=> ?_,?_⟩
    .have:fi=d[m.length]:=by
      have h5:(H9 (base+x) S r px::d)[m.length+1]?=some fi:=by simpa using hf
      simp[List.getElem?_cons_succ,Qj u,Qk]at h5;exact h5.symm
     rw[this,c];simp[H9,W]
    .simp only[List.cons_append,sn,D,A,y,QN,List.eraseIdx_cons_succ];congr 2;simp only[H9,F]
end
section
variable{P:Pr}{E:En}{Γ:sF}{hs:Z Nat}
def Aw(o:Oper):Nat:=o.after.toList.foldl (λm e=>if Region.binds .any e then m|||(1<<<e.on)else m) 0
def afx(b:Z Nat)(M:Nat):Nat:=b.zipIdx.foldl (λm p=>if M.testBit p.2 then m|||p.1 else m) M
def GJ(b:Z Nat):Nat->Nat->Nat
 |0,M=>M
 |n+1,M=>GJ b n (afx b M)
theorem aap(i j:Nat):(1<<<i).testBit j=decide (j=i):=by
 rw[Nat.one_shiftLeft,qaE]
 grind
def ZG{o:Oper}{R:Nat->Prop}(h:∀e∈o.after,Region.binds .any e=true->R e.on):∀j,(Aw o).testBit j=true->R j:=by
 have:∀(l:Z Edge) (m:Nat),(∀e∈l,Region.binds .any e=true->R e.on)->(∀j,m.testBit j=true->R j)->∀j,(l.foldl (λm e=>if Region.binds .any e then m|||(1<<<e.on)else m) m).testBit j=true->R j:=by
  intro l
  induction l with
  |nil=>intro m _ c j b;exact c j b
  |cons e l f=>grind [aap]
 exact this o.after.toList 0 (λe d=>h e (by simpa using d)) (λj b=>by simp at b)
def afw{c:Z Nat}{R:Nat->Prop}(s:∀i d,c[i]?=some d->R i->∀j,d.testBit j=true->R j){M:Nat}(k:∀j,M.testBit j=true->R j):∀j,(afx c M).testBit j=true->R j:=by
 have:∀(l:Z (Nat×Nat)) (m:Nat),(∀p∈l,R p.2->∀j,p.1.testBit j=true->R j)->(∀j,m.testBit j=true->R j)->∀j,(l.foldl (λm p=>if M.testBit p.2 then m|||p.1 else m) m).testBit j=true->R j:=by
  intro l
  induction l with
  |nil=>intro m _ e j b;exact e j b
  |cons p l f=>
   intro m h e j b;refine f _ (λq g=>h q (by simp[g])) ?_ j b
   grind
 refine this c.zipIdx M (λp r t j b=> ?_) k
 grind
def W8{e:Z Nat}{R:Nat->Prop}(c:∀i d,e[i]?=some d->R i->∀j,d.testBit j=true->R j):∀(n M:Nat),(∀j,M.testBit j=true->R j)->∀j,(GJ e n M).testBit j=true->R j
 |0,_,b=>b
 |n+1,_,b=>W8 c n _ (afw c b)
def Uz(ops:Z Oper):Z (Nat×Nat):=
 let b:=ops.map Aw
 (List.range ops.length).flatMap λj=>
  let M:=GJ b ops.length (b.getD j 0)
  (List.range j).filterMap λi=>if M.testBit i then none else some (i,j)
def Vp(g h:SG):Bool:=
 (match g.d with|some t=> !h.dD.contains t&&h.d !=some t|none=>true)&&(match h.d with|some t=> !g.dD.contains t|none=>true)
def Gv(p q:zJ):Bool:=
 (match p.wr with|some i=> !q.rd.contains i&&q.wr !=some i|none=>true)&&(match q.wr with|some i=> !p.rd.contains i|none=>true)
def adv(ops:Z Oper)(b:Z SG):Y (Z (Nat×Nat)):=
 let c:=Uz ops
 if c.all (λp=>match b[p.1]?,b[p.2]? with|some g,some h=>Vp g h|_,_=>false)&&ops.zipIdx.all (λp=>p.1.after.toList.all λe=> !Region.binds .any e||decide (e.on<p.2))then
  some (c.filter λp=>match b[p.1]?,b[p.2]? with|some g,some h=>g.op.vb&&h.op.vb|_,_=>true)
 else none
def UH(c:Nat->sF)(base:Nat)(e:Z (Nat×Nat))(f:Z SG)(S:St):Y St:=
 match sn c base (f.zipIdx.map λp=>(p.2,p.1)) S with
 |none=>none
 |some (S',d)=>if e.all (λp=>match d[p.1]?,d[p.2]? with|some a,some b=>Gv a b|_,_=>false)then some S' else none
def Ye{nid:Nat}{S:St}{op:cU}(h:op.vb=false):jy nid S op=[]:=by
 cases op with
 |len b x=>cases b<;>simp_all [cU.vb,jy]
 |_=>simp_all [cU.vb,jy]
def ab5{nid:Nat}{S:St}{op:cU}(h:op.vb=false){p:PV×Y (Nat×gU)}(d:exec Γ nid S op=some p):p.2=none:=by
 cases op with
 |sw x|O7 f c|O8 f c=>simp[exec,Qk]at d;rw[<-d]
 |pick c x y|nF n x y|M5 n x y|not x|conv k x|Ii x|yb m x y=>grind [exec]
 |bin op x y|build z ps=>simp[exec,Qq]at d;obtain⟨_,_,rfl⟩:=d;rfl
 |Ik e n len k x y=>
  simp[exec]at d;split at d
  .split at d
   .simp[Qq]at d;obtain⟨_,_,rfl⟩:=d;rfl
   .cases d
  .cases d
 |Ic i x|Pj n off x=>
  simp[exec]at d;split at d
  .simp only[Qq]at d;obtain⟨_,_,rfl⟩:=d;rfl
  .cases d
 |I6 n ks x y=>
  simp only[exec]at d;split at d
  .simp only[Qq]at d;obtain⟨_,_,rfl⟩:=d;rfl
  .cases d
 |len b x=>
  cases b with
  |true=>grind [exec]
  |false=>simp[cU.vb]at h
 |_=>simp[cU.vb]at h
def UG{e:Nat->sF}{base:Nat}:∀(l:Z (Nat×SG)) (S S':St) (d:Z zJ),sn e base l S=some (S',d)->d.length=l.length/\∀(k i:Nat) (g:SG) (f:zJ),l[k]?=some (i,g)->d[k]?=some f->
  f.d=g.d/\f.us=g.dD/\(g.op.vb=false->f.rd=[]/\f.wr=none)
 |[],S,S',d,h=>by simp only[sn,Qk,qaM]at h;rw[<-h.2];exact⟨rfl,λk i g f c=>by simp at c⟩
 |(j,B)::l,S,S',d,h=>by
  simp[sn]at h;split at h
  .cases h
  .rename_i p b;split at h
   .cases h
   .rename_i D z y;injection h with h
    injection h with A u
    subst u
    let⟨t,s⟩:=UG l _ _ _ y
    refine⟨by simp[t],λk i g f c q=> ?_⟩
    cases k with
    |zero=>
     simp[List.getElem?_cons_zero,Qk,qaM]at c q;obtain⟨rfl,rfl⟩:=c;subst q;refine⟨rfl,rfl,λr=> ?_⟩
     unfold D4 at b;simp only[H9,Lb];split at b
     .rename_i m;rw[m];exact⟨Ye r,by rw[ab5 r b];rfl⟩
     .rename_i m;injection b with b
      subst b;rw[m];exact⟨rfl,rfl⟩
     .cases b
    |succ k=>exact s k i g f (by simpa using c) (by simpa using q)
def s8(c:Z SG)(b:Array Bool):Z (Nat×SG):=(c.zipIdx.map λp=>(p.2,p.1)).filter λp=> !b.getD p.1 true
def F6{c:Z SG}{b:Array Bool}{i:Nat}{g:SG}:(i,g)∈s8 c b↔c[i]?=some g/\b.getD i true=false:=by
 unfold s8;simp only[List.mem_filter,QO,qaM,Prod.exists,qad]
 grind
def O3(c:Z SG)(b:Array Bool):(s8 c b).Pairwise λp q=>p.1<q.1:=by
 unfold s8;refine List.Pairwise.filter _ ?_;rw[List.pairwise_map]
 have:∀(l:Z SG) (k:Nat),(l.zipIdx k).Pairwise λp q=>p.2<q.2:=by
  intro l
  induction l with
  |nil=>intro k;simp
  |cons x l d=>
   intro k;rw[List.zipIdx_cons,Q0]
   grind
 exact this c 0
def PT{d:Z SG}{b:Array Bool}{i:Nat}{g:SG}{e l2:Z (Nat×SG)}(hi:i<b.size)(h:s8 d b=e++(i,g)::l2):s8 d (b.setIfInBounds i true)=e++l2:=by
 have c:=O3 d b;rw[h]at c
 have l:s8 d (b.setIfInBounds i true)=(s8 d b).filter λp=>decide (p.1≠i):=by
  unfold s8;rw[List.filter_filter];congr 1
  funext p
  by_cases f:p.1=i
  .rw[f];simp[Q4,qaS hi]
  .have:(b.setIfInBounds i true).getD p.1 true=b.getD p.1 true:=by
    simp[Q4]
    grind
   rw[this];simp[f]
 rw[l,h,List.filter_append,List.filter_cons];simp[ne_eq,qaT,qaP,QB,Qx];rw[qai]at c
 let⟨_,s2,j⟩:=c
 rw[Q0]at s2;rw[List.filter_eq_self.2,List.filter_eq_self.2]
 .grind
 .intro q k;have:=j q k (i,g) t_;simp only at this;simp;omega
def Cx(ops:Z Oper)(l:Z (Nat×SG))(c:Z zJ):Prop:=
 ∀(a b:Nat) (p q:Nat×SG) (f h:zJ),a<b->l[a]?=some p->l[b]?=some q->c[a]?=some f->c[b]?=some h->(GJ (ops.map Aw) ops.length ((ops.map Aw).getD q.1 0)).testBit p.1=false->adO f h
def agL{W:Nat->sF}(hΓ:∀i,rE P (W i)){ops:Array Oper}{m:Z SG}(hc:ops.toList.mapM (yq P hs ops)=some m)(hd:∀o∈ops.toList,∀t,o.dst=some t->E.can t){base:Nat}{S':St}{Q:Exit->Act->Wo->Prop}
  (hQ:∀a' w' L',Rel E S' a' w' L'->Q .normal a' w'):∀(s:Nat) (listed:Array Bool) (S:St) (a:Act) (w:Wo) (L:Nat->Va) (V:Z zJ),listed.size=ops.size->
  (∀i o,ops[i]?=some o->listed.getD i true=true->∀e∈o.after,Region.binds .any e=true->listed.getD e.on true=true)->
  (∀i o,ops[i]?=some o->∀e∈o.after,Region.binds .any e=true->e.on<i)->
  Rel E S a w L->base+ops.size<=S.N->sn W base (s8 m listed) S=some (S',V)->Cx ops.toList (s8 m listed) V->(s8 m listed).length<=s->wpAnyIn (WF E.rd) 0 P .any ops Q s listed a w:=by
 have hgl:m.length=ops.size:=by have:=z7 hc;simpa using this
 intro s
 induction s with
 |zero=>
  intro listed S a w L V hsz hcl q h hN c U hfu;have hp:s8 m listed=[]:=qaz O;rw[hp]at c;simp[sn,Qk,qaM]at c
  have hrd:Region.ready .any ops listed=[]:=by rw[List.eq_nil_iff_forall_not_mem];intro i hi;simp only[Region.ready,List.mem_filter,List.mem_range,Qi,qad]at hi;obtain⟨I,h2,_⟩:=hi;have:(i,m[i]'O)∈s8 m listed:=F6.2 ⟨Qj O,h2⟩;rw[hp]at this;cases this
  refine⟨hrd,?_⟩;rw[c.1]at h;exact hQ a w L h
 |succ s ih=>
  intro listed S a w L V hsz hcl q h hN c U hfu;refine⟨λhrd=> ?_,λi hi=> ?_⟩
  .
   have hp:s8 m listed=[]:=by
    rcases hpe:s8 m listed with _|⟨⟨i,g⟩,l⟩
    .rfl
    .exfalso;have T:(i,g)∈s8 m listed:=by rw[hpe];simp
     let⟨I,h2⟩:=F6.1 T
     have F:i<ops.size:=by have:=(QH.1 I).1;omega
     have hmin:∀j,j<i->listed.getD j true=true:=by
      intro j hj
      cases hlj:listed.getD j true with
      |true=>rfl
      |false=>
       have hm:(j,m[j]'O)∈s8 m listed:=F6.2 ⟨Qj O,hlj⟩;have hs:=O3 m listed;rw[hpe,Q0]at hs;rw[hpe]at hm;rcases Qv.1 hm with hm|hm
       .injection hm with hm;omega
       .have:=hs.1 _ hm;simp only at this;omega
     have:i∈Region.ready .any ops listed:=by
      simp only[Region.ready,List.mem_filter,List.mem_range,Qi,qad];refine⟨F,h2,?_⟩;rw[qaQ F];simp only[Qo,qaI,qb9,QR,qad];intro e H
      cases D:Region.binds .any e with
      |false=>exact .inl rfl
      |true=>right;have hlt:=q i _ (qaQ F) e H D;have:=hmin e.on hlt;rw[Q4]at this ⊢;rw[qaQ O]at this ⊢;simpa using this
     rw[hrd]at this;cases this
   rw[hp]at c;simp[sn,Qk,qaM]at c;rw[c.1]at h;exact hQ a w L h
  .simp only[Region.ready,List.mem_filter,List.mem_range,Qi,qad]at hi;obtain⟨F,hli,N⟩:=hi;have ho:ops[i]?=some ops[i]:=qaQ F;rw[ho]at N;simp only[Qo,qaI,qb9,QR,qad]at N;have hgi:m[i]?=some (m[i]'O):=Qj O;have T:(i,m[i]'O)∈s8 m listed:=F6.2 ⟨hgi,hli⟩;obtain⟨B,l2,b⟩:=List.append_of_mem T;rw[b]at c U
   have J:∀e∈ops[i].after,Region.binds .any e=true->listed.getD e.on true=true:=λe H D=>by
    rcases N e H with I|I
    .rw[D]at I;cases I
    .have hlt:=q i _ ho e H D;rw[Q4]at I ⊢;rw[qaQ O]at I ⊢;simpa using I
   have hanc:∀j,(GJ (ops.toList.map Aw) ops.toList.length ((ops.toList.map Aw).getD i 0)).testBit j=true->listed.getD j true=true:=by
    refine W8 (R:=λj=>listed.getD j true=true) (λk d A hR=> ?_) _ _ ?_
    .rw[QG,Qq]at A;obtain⟨o,ho',rfl⟩:=A;exact ZG (λe H D=>hcl k o (by simpa using ho') hR e H D)
    .have:(ops.toList.map Aw).getD i 0=Aw ops[i]:=by simp[qb7,F]
     rw[this];exact ZG (λe H D=>J e H D)
   have hfl:=(UG _ _ _ _ c).1
   let⟨p,hp,_,X⟩:=LY B i _ l2 S S' V c (λk fk fi A hfk hfi=>by
    have hk1:(B++(i,m[i]'O)::l2)[k]?=some B[k]:=by rw[List.getElem?_append_left A];exact Qj A
    refine U k B.length B[k] (i,m[i]'O) fk fi A hk1 t_ hfk hfi ?_
    cases D:(GJ (ops.toList.map Aw) ops.toList.length ((ops.toList.map Aw).getD i 0)).testBit B[k].1 with
    |false=>rfl
    |true=>
     have I:=hanc _ D;have h2:B[k]∈s8 m listed:=by rw[b];simp[QE]
     have h3:=(F6 (i:=B[k].1) (g:=B[k].2)).1 h2;rw[h3.2]at I
     cases I)
   have hcog:yq P hs ops ops[i]=some (m[i]'O):=by
    have:∀(l:Z Oper) (r:Z SG),l.mapM (yq P hs ops)=some r->∀(k:Nat) (o:Oper) (g:SG),l[k]?=some o->r[k]?=some g->yq P hs ops o=some g:=by
     intro l
     induction l with
     |nil=>intro r _ k o g A;simp at A
     |cons x l ihl=>
      intro r hr k o g A hg;simp[qaa,Qu,Qm,qaf,Qk]at hr;obtain⟨y,hy,ys,hys,rfl⟩:=hr
      cases k with
      |zero=>simp at A hg;subst A hg;exact hy
      |succ k=>exact ihl ys hys k o g (by simpa using A) (by simpa using hg)
    exact this _ _ hc i _ _ t_ hgi
   have hstp:zT (W i) (base+i) S (m[i]'O)=some (S.cY (m[i]'O).d p.1 p.2):=by rw[aa1,hp];rfl
   have u:=Bg (K:=wpAnyIn (WF E.rd) 0 P .any ops Q s (listed.setIfInBounds i true)) (Q:=Q) (hΓ i) hcog h (nid:=base+i) O (hd _ t_) hstp (λa' w' L' h'=>by
    refine ih _ _ a' w' L' (V.eraseIdx B.length) (by simpa using hsz) (λk o A hlk e H D=> ?_) q h' hN (by rw[PT O b];exact X) ?_ ?_
    .by_cases hki:k=i
     .subst hki;rw[ho]at A;injection A with A
      subst A;have hlt:=q k _ ho e H D;have:=J e H D;simp[Q4]at this ⊢;rw[qbg O];exact this
     .have hlk':listed.getD k true=true:=by
       simp[Q4]at hlk ⊢;rw[qbg (λe=>hki e.symm)]at hlk
       exact hlk
      have:=hcl k o A hlk' e H D
      by_cases hei:e.on=i
      .rw[hei,Q4,qaS O];rfl
      .simp[Q4]at this ⊢;rw[qbg (λe=>hei e.symm)]
       exact this
    .rw[PT O b];intro x y p' q' f h0 hxy hp' hq' hf hh hanc'
     have hget:∀(z:Nat),(B++l2)[z]?=(B++(i,m[i]'O)::l2)[if z<B.length then z else z+1]?:=by
      intro z;split
      .rename_i hz;rw[List.getElem?_append_left hz,List.getElem?_append_left hz]
      .rename_i hz;rw[List.getElem?_append_right O,List.getElem?_append_right O];have:z+1 - B.length=(z - B.length)+1:=O;rw[this,List.getElem?_cons_succ]
     have hgetf:∀(z:Nat),(V.eraseIdx B.length)[z]?=V[if z<B.length then z else z+1]?:=by intro z;rw[List.getElem?_eraseIdx];split<;>rfl
     rw[hget]at hp' hq';rw[hgetf]at hf hh;refine U _ _ p' q' f h0 ?_ hp' hq' hf hh hanc';split<;>split<;>omega
    .rw[PT O b];rw[b]at hfu;simp at hfu ⊢
     omega)
   unfold wpOpIn;rw[ho];simp only;split
   .rename_i hw;rw[Qe hw]at u;exact u
   .rename_i hw;rw[Qg hw]at u;exact u
def aaD{ops:Z Oper}{i j:Nat}(c:j<ops.length)(b:i<j)(h:(GJ (ops.map Aw) ops.length ((ops.map Aw).getD j 0)).testBit i=false):(i,j)∈Uz ops:=by unfold Uz;simp only[qat,List.mem_range,List.mem_filterMap];exact⟨j,c,i,b,by rw[h];rfl⟩
def agD{g h:SG}{f e:zJ}(k:f.d=g.d/\f.us=g.dD)(l:e.d=h.d/\e.us=h.dD)(c:Vp g h=true)(hi:Gv f e=true):adO f e:=by
 unfold Vp at c;unfold Gv at hi;rw[Qi]at c hi
 let⟨m,a2⟩:=c
 let⟨i1,i2⟩:=hi
 refine⟨λt d=> ?_,λt d=> ?_,λt d j=> ?_,λi b=> ?_,λi b=> ?_,λi b j=> ?_⟩
 .grind
 .grind
 .grind
 .grind
 .grind
 .rw[b,j]at i1;simp at i1
def agi(b:Z SG)(n:Nat)(d:b.length=n):s8 b (Array.replicate n false)=b.zipIdx.map λp=>(p.2,p.1):=by unfold s8;rw[List.filter_eq_self];rintro⟨i,g⟩ c;simp[QO,qaM,Prod.exists]at c;obtain⟨x,j,h1,rfl,rfl⟩:=c;rw[List.mem_zipIdx_iff_getElem?]at h1;have:=(QH.1 h1).1;simp[Q4,qbu];rw[Qe O];rfl
theorem am0{D:Nat->sF}(T:∀i,rE P (D i))(hm:P.follows .mixedOrders=true){nt id:Nat}{ops:Array Oper}{b:Z SG}{un:Z (Nat×Nat)}{Q:Exit->St->Prop}{S S':St}(hc:ops.toList.mapM (yq P hs ops)=some b)(hd:∀o∈ops.toList,∀t,o.dst=some t->t<nt)
  (m:adv ops.toList b=some un) (d:UH D S.N un b {S with N:=S.N+b.length}=some S') (h:Q .normal S'):V P nt (.region id ops true) Q S:=λE hE hk a w L I=>by
 have hl:b.length=ops.size:=by have:=z7 hc;simpa using this
 refine wpIn_region_any hm ?_;unfold adv at m;simp only at m;split at m
 .rename_i k;injection m with m
  rw[Qi]at k
  let⟨hap,B⟩:=k
  unfold UH at d;split at d
  .cases d
  .rename_i S1 fs c;split at d
   .rename_i K;injection d with d
    subst d;have J:=UG _ _ _ _ c;have s:=agi b ops.size hl;refine agL (E:=E) (base:=S.N) T hc (ZW hE hk hd) (λa' w' L' h'=>⟨S1,L',h',h⟩) ops.size (Array.replicate ops.size false) {S with N:=S.N+b.length} a _ L fs t_ ?_ ?_ ((I.room b.length).drew _) (by simp[hl]) (by rw[s];exact c) ?_ (by rw[s];simp[hl])
    .intro i o X A;exfalso;have:=(Q6.1 X).1;simp[Q4,qbu]at A;rw[Qe this]at A;cases A
    .intro i o X e R hb;have h1:=Qn.1 B (o,i) (by rw[List.mem_zipIdx_iff_getElem?];simpa using X)
     have h2:=Qn.1 h1 e (by simpa using R)
     rw[hb]at h2;simpa using h2
    .rw[s];intro x y p q f e U hp hq hf R l
     have j:∀(z:Nat) (r:Nat×SG),(b.zipIdx.map λp=>(p.2,p.1))[z]?=some r->r.1=z/\b[z]?=some r.2:=by intro z r hz;simp only[QG,Qq,Prod.exists,List.getElem?_zipIdx,qaM]at hz;obtain⟨u,v,⟨u',W,rfl,rfl⟩,rfl⟩:=hz;exact⟨t_,W⟩
     let⟨p1,p2⟩:=j x p hp
     let⟨q1,q2⟩:=j y q hq
     have fx:=J.2 x p.1 p.2 f hp hf;have fy:=J.2 y q.1 q.2 e hq R;have hy:y<ops.toList.length:=by have:=(QH.1 q2).1;simp;omega
     rw[p1,q1]at l;have g:=aaD hy U l;have ha:=Qn.1 hap _ g;simp[p2,q2]at ha;refine agD ⟨fx.1,fx.2.1⟩ ⟨fy.1,fy.2.1⟩ ha ?_
     cases H:p.2.op.vb with
     |false=>
      let⟨r1,r2⟩:=fx.2.2 H
      unfold Gv;rw[r1,r2];cases e.wr<;>simp
     |true=>
      cases F:q.2.op.vb with
      |false=>
       let⟨r1,r2⟩:=fy.2.2 F
       unfold Gv;rw[r1,r2];cases f.wr<;>simp
      |true=>
       have hin:(x,y)∈un:=by rw[<-m,List.mem_filter];exact⟨g,by simp[p2,q2,H,F]⟩
       have:=Qn.1 K _ hin;simpa[hf,R]using this
   .cases d
 .cases m
end
end
section
open Go.RowKit
def aZ(P:Pr)(nt:Nat)(hs:Z Nat):Code->Y SC
 | .skip=>some .skip
 | .region _ ops false=>
  match ops.toList.mapM (yq P hs ops)with
  |some gs=>if ops.toList.all (λo=>match o.dst with|some t=>decide (t<nt)|none=>true)then some (.vW gs)else none
  |none=>none
 | .region _ ops true=>
  match ops.toList.mapM (yq P hs ops)with
  |some gs=>
   if ops.toList.all (λo=>match o.dst with|some t=>decide (t<nt)|none=>true)&&P.follows .mixedOrders then
    match adv ops.toList gs with
    |some un=>some (.tT un gs)
    |none=>none
   else none
  |none=>none
 | .seq x y=>
  match aZ P nt hs x,aZ P nt hs y with
  |some d,some b=>some (.seq d b)
  |_,_=>none
 | .cond c x y=>
  match bK c,aZ P nt hs x,aZ P nt hs y with
  |some e,some d,some b=>some (.cond e d b)
  |_,_,_=>none
 | .block id c=>(aZ P nt hs c).map (.block id)
 | .loop c=>(aZ P nt hs c).map .loop
 | .exit id=>some (.exit id)
 | .ret=>some .ret
 | .rangeFunc g ps x y=>
  match bK g,aZ P nt hs x,aZ P nt hs y with
  |some g',some d,some b=>if AF x&&AF y&&ps.toList.all (λt=>decide (t<nt))then some (.Iz g' ps.toList d b)else none
  |_,_,_=>none
 |_=>none
section
variable{P:Pr}{S:St}{Γ:sF}{nt:Nat}{Q:Exit->St->Prop}
def VS(P:Pr)(nt:Nat)(sc:SC)(Q:Exit->St->Prop)(S:St):Prop:=∀c hs,aZ P nt hs c=some sc->V P nt c Q S
def VS.mono{sc:SC}{b:Exit->St->Prop}(h:VS P nt sc Q S)(d:∀e S,Q e S->b e S):VS P nt sc b S:=λc hs f=>(h c hs f).mono d
theorem T0{ops:Array Oper}(h:ops.toList.all (λo=>match o.dst with|some t=>decide (t<nt)|none=>true)=true):∀o∈ops.toList,∀t,o.dst=some t->t<nt:=by grind
def aj2(h:Q .normal S):VS P nt .skip Q S:=by
 intro c hs b
 cases c with
 |skip=>exact alM h
 |region id ops d=>cases d<;>simp[aZ]at b<;>(try split at b)<;>(try split at b)<;>(try split at b)<;>cases b
 |seq x y=>simp only[aZ]at b;split at b<;>cases b
 |cond c x y=>simp[aZ]at b;split at b<;>cases b
 |block id c|loop c=>simp only[aZ,Qq]at b;obtain⟨_,_,b⟩:=b;cases b
 |rangeFunc g ps x y=>simp[aZ]at b;(try split at b)<;>(try split at b)<;>cases b
 |_=>simp[aZ]at b<;>cases b
def aj6{id:Nat}(h:Q (.exit id) S):VS P nt (.exit id) Q S:=by
 intro c hs b
 cases c with
 |exit j=>simp[aZ,Qk,SC.exit.injEq]at b;subst b;exact alN h
 |region id ops d=>cases d<;>simp[aZ]at b<;>(try split at b)<;>(try split at b)<;>(try split at b)<;>cases b
 |seq x y|cond c x y=>simp[aZ]at b;split at b<;>cases b
 |block id c|loop c=>simp only[aZ,Qq]at b;obtain⟨_,_,b⟩:=b;cases b
 |rangeFunc g ps x y=>simp[aZ]at b;(try split at b)<;>(try split at b)<;>cases b
 |_=>simp[aZ]at b<;>cases b
def alQ(h:Q .ret S):VS P nt .ret Q S:=by
 intro c hs b
 cases c with
 |ret=>exact amZ h
 |region id ops d=>cases d<;>simp[aZ]at b<;>(try split at b)<;>(try split at b)<;>(try split at b)<;>cases b
 |seq x y|cond c x y=>simp[aZ]at b;split at b<;>cases b
 |block id c|loop c=>simp only[aZ,Qq]at b;obtain⟨_,_,b⟩:=b;cases b
 |rangeFunc g ps x y=>simp[aZ]at b;(try split at b)<;>(try split at b)<;>cases b
 |_=>simp[aZ]at b<;>cases b
def afE{x y:SC}(h:VS P nt x (UB (VS P nt y Q) Q) S):VS P nt (.seq x y) Q S:=by
 intro c hs b
 cases c with
 |seq p q=>
  simp[aZ]at b;split at b
  .rename_i m l j i;injection b with b
   injection b with h1 k
   subst h1 k;refine amY ((h p hs j).mono ?_);intro e S' f;cases e<;>first|exact f q hs i|exact f
  .cases b
 |region id ops d=>cases d<;>simp[aZ]at b<;>(try split at b)<;>(try split at b)<;>(try split at b)<;>cases b
 |cond c x y=>simp[aZ]at b;split at b<;>cases b
 |block id c|loop c=>simp only[aZ,Qq]at b;obtain⟨_,_,b⟩:=b;cases b
 |rangeFunc g ps x y=>simp[aZ]at b;(try split at b)<;>(try split at b)<;>cases b
 |_=>simp[aZ]at b<;>cases b
def aj7{c:bD}{x y:SC}{b:Bool}(k:c.val S= .bool b)(h:VS P nt (if b then x else y) Q S):VS P nt (.cond c x y) Q S:=by
 intro r hs e
 cases r with
 |cond c0 p q=>
  simp[aZ]at e;split at e
  .rename_i u t s f j i;injection e with e
   injection e with h1 m l
   subst h1 m l;refine alO f k ?_;cases b
   .exact h q hs i
   .exact h p hs j
  .cases e
 |region id ops d=>cases d<;>simp[aZ]at e<;>(try split at e)<;>(try split at e)<;>(try split at e)<;>cases e
 |seq x y=>simp[aZ]at e;split at e<;>cases e
 |block id c|loop c=>simp only[aZ,Qq]at e;obtain⟨_,_,e⟩:=e;cases e
 |rangeFunc g ps x y=>simp[aZ]at e;(try split at e)<;>(try split at e)<;>cases e
 |_=>simp[aZ]at e<;>cases e
def ahe{c:bD}{x y:SC}(r:c.val S= .iD)(t:VS P nt x Q S)(s:VS P nt y Q S):VS P nt (.cond c x y) Q S:=by
 intro D hs e
 cases D with
 |cond c0 p q=>
  simp[aZ]at e;split at e
  .rename_i I H F h l k;injection e with e
   injection e with B A z
   subst B A z;intro E j i a w L f;have hv:=f.ke h;rw[r]at hv;generalize m:a.eval c0=u at hv
   cases hv with
   |iD b=>
    refine qbt m ?_;cases b
    .exact s q hs k E j i.ah0 a w L f
    .exact t p hs l E j i.ah1 a w L f
  .cases e
 |region id ops d=>cases d<;>simp[aZ]at e<;>(try split at e)<;>(try split at e)<;>(try split at e)<;>cases e
 |seq x y=>simp only[aZ]at e;split at e<;>cases e
 |block id c|loop c=>simp only[aZ,Qq]at e;obtain⟨_,_,e⟩:=e;cases e
 |rangeFunc g ps x y=>simp[aZ]at e;(try split at e)<;>(try split at e)<;>cases e
 |_=>simp[aZ]at e<;>cases e
def ahf{id:Nat}{x:SC}(h:VS P nt x (Jb id Q) S):VS P nt (.block id x) Q S:=by
 intro c hs b
 cases c with
 |block j p=>
  simp only[aZ,Qq]at b;obtain⟨i,e,b⟩:=b;injection b with h1 f
  subst h1 f;exact aj1 (h p hs e)
 |region id ops d=>cases d<;>simp[aZ]at b<;>(try split at b)<;>(try split at b)<;>(try split at b)<;>cases b
 |seq x y|cond c x y=>simp[aZ]at b;split at b<;>cases b
 |loop c=>simp only[aZ,Qq]at b;obtain⟨_,_,b⟩:=b;cases b
 |rangeFunc g ps x y=>simp[aZ]at b;(try split at b)<;>(try split at b)<;>cases b
 |_=>simp[aZ]at b<;>cases b
def alR{e:Nat->sF}(k:∀i,rE P (e i)){j:Z (Nat×Nat)}{f:Z SG}{S':St}(l:UH e S.N j f {S with N:=S.N+f.length}=some S')(h:Q .normal S'):VS P nt (.tT j f) Q S:=by
 intro c hs b
 cases c with
 |region id ops d=>
  cases d with
  |false=>simp[aZ]at b;(try split at b)<;>(try split at b)<;>(try split at b)<;>cases b
  |true=>grind [aZ,am0,T0]
 |seq x y|cond c x y=>simp[aZ]at b;split at b<;>cases b
 |block id c|loop c=>simp only[aZ,Qq]at b;obtain⟨_,_,b⟩:=b;cases b
 |rangeFunc g ps x y=>simp[aZ]at b;(try split at b)<;>(try split at b)<;>cases b
 |_=>simp[aZ]at b<;>cases b
def ev(P:Pr)(nt:Nat)(Γ:sF):SC->(Exit->St->Prop)->St->Prop
 | .skip,Q,S=>Q .normal S
 | .vW gs,Q,S=>match Ej Γ S.N gs {S with N:=S.N+gs.length}with|some S'=>Q .normal S'|none=>False
 | .tT un gs,Q,S=>match UH (λ_=>Γ) S.N un gs {S with N:=S.N+gs.length}with|some S'=>Q .normal S'|none=>False
 | .seq x y,Q,S=>ev P nt Γ x (UB (ev P nt Γ y Q) Q) S
 | .cond c x y,Q,S=>match c.val S with| .bool b=>(b=true->ev P nt Γ x Q S)/\(b=false->ev P nt Γ y Q S)| .iD=>ev P nt Γ x Q S/\ev P nt Γ y Q S|_=>False
 | .block id c,Q,S=>ev P nt Γ c (Jb id Q) S
 | .loop c,Q,S=>VS P nt (.loop c) Q S
 | .Iz g ps x y,Q,S=>VS P nt (.Iz g ps x y) Q S
 | .exit id,Q,S=>Q (.exit id) S
 | .ret,Q,S=>Q .ret S
inductive RV where
 |tmp (t:Nat)
 |cell (t:Nat) (n:Option Nat)
def oF(P:Pr):Z ResultVar->Y (Z RV)
 |[]=>some []
 | .tmp t::c=>(oF P c).map (.tmp t::·)
 | .cell t ty::c=>match xm P ty,oF P c with
  |some n,some b=>some (.cell t n::b)
  |_,_=>none
def FV(S:St):RV->Y PV
 | .tmp t=>some (S.env t)
 | .cell t n=>match S.env t with
  | .ptr id aw off=>if(S.H id).aw=aw then(match(S.H id).c with| .box cs=>xy n (cs.drop off)|_=>none)else none
  |_=>none
def AD(S:St):Z RV->Y (Z PV)
 |[]=>some []
 |r::b=>match FV S r,AD S b with
  |some x,some xs=>some (x::xs)
  |_,_=>none
def xx(S:St)(b:Z RV):Y PV:=
 match AD S b with
 |some [x]=>some x
 |some xs=>some (.ff xs)
 |none=>none
def eE(pos:Nat)(recv:Bool)(cs b:Z PV):St:=
 {env:=λt=>((my pos (if recv then[.ptr 0 0 0]else[]) b)[t]?).getD .undef,H:=λid=>if recv=true/\id=0 then⟨0,.box cs⟩else⟨0,.dead⟩,N:=if recv then 1 else 0}
abbrev St0:=eE 0
theorem Zf{α:Type}(p:Nat)(x l:Z α):(my p x l).length=x.length+l.length:=by grind [my]
def Di(b:Z RV)(recv:Bool)(R:PV->Z PV->Prop)(S:St):Prop:=
 match xx S b with
 |some x=>match recv with
  |true=>match S.H 0 with
   |⟨0,.box cs'⟩=>cs'.all PV.closed=true/\R (fz S.H (some 0) 9 x) cs'
   |_=>False
  |false=>R (fz S.H none 9 x) []
 |none=>False
def afZ(b:Z RV)(recv:Bool)(R:PV->Z PV->Prop):Exit->St->Prop
 | .ret,S| .normal,S=>Di b recv R S
 |_,_=>False
def aav{E:En}{a:Act}{w:Wo}{L:Nat->Va}(h:Rel E S a w L){rv:ResultVar}{r:RV}{x:PV}(f:oF P [rv]=some [r])(c:FV S r=some x):
  ∃v,(match rv with| .tmp t=>pure (a.tmps.getD t undef)| .cell ad t=>do loadVar t (<-asAddr (a.tmps.getD ad undef)):Sem Va).run P w= .ok v w/\bp w (bn E S L) (S.gh L) x v:=by
 cases rv with
 |tmp t=>simp[oF,Qo,Qk,List.cons.injEq,and_true]at f;subst f;simp[FV,Qk]at c;subst c;exact⟨_,rfl,h.env t⟩
 |cell t ty=>
  simp[oF]at f;split at f
  .rename_i n m y q;injection f with f
   injection f with h1 D
   subst h1 D;simp[FV]at c;split at c
   .rename_i id aw off e;split at c
    .rename_i d;split at c
     .rename_i cs k;have r:=h.env t;rw[e]at r
      let⟨A,_⟩:=r.rQ (show(S.gh L).V id=aw from d)
      let⟨b,hv,B⟩:=h.xT r d k
      let⟨H,F,T,g,z,s,_⟩:=h.tV A k
      rw[B]at g;simp[Value.pointer.injEq,Qk,qa4]at g;obtain⟨rfl,_⟩:=g
      let⟨v,j,l⟩:=NS (P:=P) (ad:=⟨b,off,none⟩) y (s.drop off) (λi u p=>by rw[add_mid];exact tU z (iM p)) c
      exact⟨v,by simp[hv,asAddr,j],l⟩
     .cases c
    .cases c
   .cases c
  .cases f
def LZ{E:En}{a:Act}{w:Wo}{L:Nat->Va}(h:Rel E S a w L):∀(b:Z ResultVar) (f:Z RV) (xs:Z PV),oF P b=some f->AD S f=some xs->
  ∃vs,(b.mapM λ| .tmp t=>pure (a.tmps.getD t undef)| .cell ad t=>do loadVar t (<-asAddr (a.tmps.getD ad undef)):Sem (Z Va)).run P w= .ok vs w/\bo w (bn E S L) (S.gh L) xs vs
 |[],f,xs,c,d=>by simp[oF,Qk]at c;subst c;simp[AD,Qk]at d;subst d;exact⟨[],t_,.nil⟩
 |rv::b,f,xs,c,d=>by
  have l:∃r rs',f=r::rs'/\oF P [rv]=some [r]/\oF P b=some rs':=by
   cases rv with
   |tmp t=>simp[oF,Qq]at c;obtain⟨rs',h1,rfl⟩:=c;exact⟨_,rs',rfl,rfl,h1⟩
   |cell t ty=>
    simp[oF]at c;split at c
    .rename_i n rs' p e;injection c with c
     subst c;exact⟨_,rs',rfl,by simp[oF,p],e⟩
    .cases c
  obtain⟨r,rs',rfl,h1,q⟩:=l;simp[AD]at d;split at d
  .rename_i x g j i;injection d with d
   subst d
   let⟨v,hv,m⟩:=aav h h1 j
   let⟨vs,k,e⟩:=LZ h b rs' g q i
   refine⟨v::vs,?_,.cons m e⟩;simp only[qaa,QY]
   erw [hv]
   simp only[qac]
   erw [k]
   rfl
  .cases d
def Dj{E:En}{a:Act}{w:Wo}{L:Nat->Va}(h:Rel E S a w L){fn:Func}{f:Z RV}{x:PV}(k:oF P fn.results.toList=some f)(b:xx S f=some x):
  ∃v,(results fn a.tmps).run P w= .ok v w/\bp w (bn E S L) (S.gh L) x v:=by
 unfold xx at b
 cases i:AD S f with
 |none=>rw[i]at b;cases b
 |some xs=>
  rw[i]at b
  let⟨vs,g,c⟩:=LZ h _ _ _ k i
  have d:(results fn a.tmps).run P w= .ok (if h:vs.toArray.size=1 then vs.toArray[0]else .tuple vs.toArray) w:=by
   unfold results;rw[qca];simp only[QY,map_eq_pure_bind]
   erw [g]
   rfl
  refine⟨_,d,?_⟩
  match xs,vs,c,b with
  |[],vs,c,b=>
   injection b with b
   subst b;have:=c.vi;subst this;exact .ff _ _ c.1 c.2
  |[y],vs,c,b=>
   injection b with b
   subst b;obtain⟨v,e,rfl,h1,j⟩:=c.cons_inv;have:=j.vi;subst this;exact h1
  |y::z::l,vs,c,b=>
   injection b with b
   subst b;obtain⟨v,e,rfl,h1,j⟩:=c.cons_inv;obtain⟨u,us,rfl,p,m⟩:=j.cons_inv;rw[dif_neg t_];exact .ff _ _ c.1 c.2
def FB{w w':Wo}(h:w.heap=#[]):EO w w':=⟨by rw[h];exact QT _,λk o b _=>by rw[h]at b;simp at b⟩
def Rel.shut{E:En}{S:St}{a:Act}{w:Wo}{L:Nat->Va}(h:Rel E S a w L)(A:E.wk.heap=#[]){d:Deferred}{N:Z Deferred}(y:a.defers=d::N):
  ∃D w',d.target= .collected D/\(Instr.takeDeferred D).run P w= .ok [] w'/\Rel E S {a with defers:=N} w' L:=by
 have r:=h.defers.nodup;rw[y,List.nodup_cons]at r
 let⟨D,j,K,m⟩:=h.defers.at_ d (by rw[y];exact QC)
 have c:∀k,k≠D->(w.putObj D (.deferred none)).heap[k]?=w.heap[k]?:=λk U=>World.putObj_heap_other U
 have i:∀(p:Addr) (v:Va),w.cell? p=some v->p.block≠D:=by intro p v l e;unfold World.cell? at l;rw[e,m]at l;simp at l
 have hs:dp w (w.putObj D (.deferred none)) (bn E S L) (bn E S L):=⟨λp v l H=>⟨(World.cell?_of_block (c _ (i p v l))).trans l,H⟩,λb es ck g H=>⟨(c b (λe=>by rw[e,m]at g;cases g)).trans g,H⟩⟩
 have F:∀id b,id<S.N->(S.H id).c.live=true->cq (L id)=some b->b≠D:=by
  intro id b f s g e
  let⟨o,u,J⟩:=(h.obj id f).cells s g
  rw[e,m]at u;injection u with u
  rw[<-u]at J;cases J
 refine⟨D,w.putObj D (.deferred none),by rw[j],run_takeDeferred m,⟨λe=>(by have:=h.defers.none e;rw[y]at this;cases this),r.2,λX I=> ?_⟩,h.size,λt=>(h.env t).mono hs (Gh.le.refl _),λid f=> ?_,h.apart,h.fresh,
  ⟨⟨h.fr.os,h.fr.tape,h.fr.output,by rw[World.putObj_size];exact h.fr.size,λb g T=>by rw[c b O];exact h.fr.block b g T,h.fr.drawn⟩,FB A⟩,h.CB,h.an.1.trans ⟨λb o j K B=>⟨(c b (λe=>by rw[e,m]at j;injection j with j;rw[<-j]at K;cases K)).trans j,B⟩⟩,h.an.2.1,λb W=>(let⟨q1,⟨o,q2,z,q⟩,R⟩:=h.an.2.2 b W;⟨q1,⟨o,q2,z,(c b (λe=>by rw[e,m]at q;injection q with q;rw[<-q]at z;cases z)).trans q⟩,R⟩)⟩
 .let⟨D',u,J,h6⟩:=h.defers.at_ X (by rw[y];exact QI _ I)
  grind
 .cases s:(S.H id).c.live with
  |false=>
   cases V:(S.H id).c with
   |dead=>trivial
   |box cs|row e k es=>rw[V]at s;cases s
  |true=>exact(h.obj id f).mono hs (Gh.le.refl _) (λb g _=>c b (F id b f s g))
def Pb{E:En}{S:St}{L:Nat->Va}(b:E.wk.heap=#[]){fn:Func}{R:Ending->Wo->Prop}{tmps:Array Va}(f:∀w',Rel E S {tmps:=tmps,defers:=[]} w' L->∃v,(results fn tmps).run P w'= .ok v w'/\R (.returned v) w'):
  ∀(c:Z Deferred) (w:Wo),Rel E S {tmps:=tmps,defers:=c} w L->LeavesInM (WF none) 0 P fn tmps R c .returning w
 |[],w,h=>f w h
 |d::c,w,h=>by
  let⟨D,w',h1,i,g⟩:=Rel.shut (P:=P) h b rfl
  exact⟨(λe=>by cases e),.inl ⟨D,w',h1,i,Pb b f c w' g⟩⟩
def Hz{f:FI}{fn:Func}{c:Code}{E:En}{r:St}{Q:Exit->St->Prop}{b:Array Va}{w:Wo}{L:Nat->Va}{R:Ending->Wo->Prop}(s:P.funcs[f]?=some fn)(u:fn.body=some c)(h:V P fn.ntmps c Q r)
  (y:E.nt=fn.ntmps) (i:E.rd=none/\E.nd=false) (m:∀t,E.kt t=none) (l:E.wk.heap=#[]) (g:Rel E r {tmps:=b++Array.replicate (fn.ntmps - b.size) undef,defers:=[]} w L)
  (fin:∀(e:Exit) (S':St) (j:Nat->Va) (a':Act) (w':Wo),Rel E S' a' w' j->Q e S'->(e= .ret\/e= .normal)/\∃v,(results fn a'.tmps).run P w'= .ok v w'/\R (.returned v) w'):Calls P f b w R:=by
 have q:=h E y ⟨λt _=>m t,.inl i⟩ _ w L g
 rw[i.1]at q;refine Fo.1 (callsIn_of_wp_marks (F:=WF none) (n:=0) s u trivial (qaB q ?_));rintro e a' w' ⟨S',j,h1,p⟩
 have z:LeavesInM (WF none) 0 P fn a'.tmps R a'.defers .returning w':=
  Pb l (λk d=>(fin e S' j _ k d p).2) a'.defers w' h1
 rcases(fin e S' j a' w' h1 p).1 with rfl|rfl<;>exact z
theorem afk{f:FI}{fn:Func}{c:Code}{sc:SC}{rs:Z RV}{pos:Nat}{recv:Bool}{cs d cs':Z PV}{r:PV}(hf:P.funcs[f]?=some fn)(m:fn.body=some c){hs:Z Nat}(hc:aZ P fn.ntmps hs c=some sc)(hrs:oF P fn.results.toList=some rs)
  (hlen:(if recv then 1 else 0)+d.length<=fn.ntmps) (h:VS P fn.ntmps sc (afZ rs recv λr' p=>r'=r/\(recv=true->p=cs')) (eE pos recv cs d)):Of P f pos recv cs d r cs':=by
 intro w X hX rb T rvs vs F z
 have hrb0:∀b,(if recv then some rb else none)=some b->b<w.heap.size/\¬gb b:=by grind
 let E:En:={w0:=w,rb:=if recv then some rb else none,nt:=fn.ntmps,X:=X,H0:=λ_=>False,hX:=⟨λb m=>hX.lt b m.1,λb m=>hX.ng b m.1,hX.gi⟩,Rs:=recv,rv:= .pointer (some ⟨rb,0,none⟩),rk:=false,EL:=hrb0,TE:=λh=>(by cases h),rd:=none,nd:=false,kt:=λ_=>none,wk:={w with heap:=#[]},wm:=w,M0:=λ_=>True}
 let L:Nat->Va:=λ_=> .pointer (some ⟨rb,0,none⟩)
 have hvl:vs.length=d.length:=z.1
 have hm:∀b,bn E (eE pos recv cs d) L b->Mc recv rb X b:=by
  rintro b (⟨id,k,U,m⟩|m)
  .simp[eE]at k U
   cases recv with
   |false=>simp at k
   |true=>simp[L,cq,Qk]at m;exact .inl ⟨rfl,m.symm⟩
  .exact .inr m
 have hm':∀b,Mc recv rb X b->bn E (eE pos recv cs d) L b:=by
  rintro b (⟨s,N⟩|m)
  .subst N;exact .inl ⟨0,by simp[eE,s],by simp[eE,s,zO.live],rfl⟩
  .exact .inr m
 have hst:dp w w (Mc recv rb X) (bn E (eE pos recv cs d) L):=(dp.of λ_ hn=>λy=>hn (hm _ y))
 have hrel:Rel E (eE pos recv cs d) {tmps:=(my pos (Ap recv rb) vs).toArray++Array.replicate (fn.ntmps - (my pos (Ap recv rb) vs).toArray.size) undef,defers:=[]} w L:=by
  refine⟨Marks.nil rfl,⟨?_,λt v hv=>by cases hv⟩,λt=> ?_,λid k=> ?_,λi j b hi hj _ _ _ _=> ?_,λid k=> ?_,⟨Fr.refl _ _,FB rfl⟩,λ_ _ _=>rfl,Kept.top _ _ _,λid b k _ _ _=>(by cases recv<;>simp[eE]at k<;>omega),λb m=>m.elim⟩
  .grind [Ap,Zf]
  .have hget:(((my pos (Ap recv rb) vs).toArray++Array.replicate (fn.ntmps - (my pos (Ap recv rb) vs).toArray.size) undef).getD t undef)=((my pos (Ap recv rb) vs)[t]?).getD undef:=by
    rw[Q4,qaW]
    grind
   simp only;rw[hget]
   have D:bo w (bn E (eE pos recv cs d) L) ((eE pos recv cs d).gh L) (my pos (if recv then[.ptr 0 0 0]else[]) d) (my pos (Ap recv rb) vs):=by
    have ha:=z.mono hst (dz.le ((eE pos recv cs d).gh L));refine((ha.take pos).append ?_).append (ha.drop pos)
    cases recv with
    |false=>exact .nil
    |true=>simp[Ap,Qr];exact .cons (.ptr _ _ _ _ (by simp[St.gh,eE]) (QT _) (λ_=>by simp[St.gh,L,cq])) .nil
   show bp w _ _ (((my pos (if recv then[.ptr 0 0 0]else[]) d:Z PV)[t]?).getD .undef) _
   cases W:(my pos (if recv then[.ptr 0 0 0]else[]) d:Z PV)[t]? with
   |none=>
    have:(my pos (Ap recv rb) vs)[t]?=none:=by rw[List.getElem?_eq_none_iff]at W ⊢;rw[D.1];exact W
    rw[this];exact .undef
   |some x=>
    let⟨v,hv,hr⟩:=D.get W
    rw[hv];exact hr
  .cases recv with
   |false=>simp[eE]at k
   |true=>
    simp[eE]at k;subst k
    let⟨s,N,_⟩:=F rfl
    have e:((eE pos true cs d).H 0).c= .box cs:=by simp[eE]
    rw[e];exact⟨rb,rvs.toArray,T,rfl,s,.inl (by simp[E]),by simpa using N.mono hst (dz.le ((eE pos true cs d).gh L))⟩
  .grind [eE]
  .grind [eE]
 have fin:∀(S':St) (R:Nat->Va) (a':Act) (w':Wo),Rel E S' a' w' R->Di rs recv (λr' p=>r'=r/\(recv=true->p=cs')) S'->
   ∃v,(results fn a'.tmps).run P w'= .ok v w'/\ab3 recv rb X w r cs' (.returned v) w':=by
  intro S' R a' w' y g;unfold Di at g;split at g
  .rename_i x W
   let⟨v,hv,B⟩:=Dj y hrs W
   refine⟨v,hv,?_⟩
   cases recv with
   |false=>
    simp[QB,false_implies,and_true]at g;subst g;refine⟨v,[],rfl,?_,(λu=>by cases u),y.fr.toFr⟩
    refine y.fz (λb m=> ?_) (λid b k U _ m u=> ?_) 9 B
    .rcases m with⟨m,_⟩|m
     .cases m
     .exact .inr m
    .rcases u with⟨u,_⟩|u
     .cases u
     .rcases((y.obj id k).Ag U m).2 with s|s
      .simp[E]at s
      .have:=hX.lt b u;simp[E]at s;omega
   |true=>
    simp only at g;split at g
    .rename_i p V;obtain⟨hcl,rfl,H⟩:=g;have H:=H trivial;subst H
     have I:0<S'.N:=by
      rcases qbh S'.N with h0|h0
      .have:=y.fresh 0 O;rw[V]at this;cases this
      .exact h0
     have J:R 0= .pointer (some ⟨rb,0,none⟩):=y.CB rfl (by rw[V];rfl) (by rw[V])
     let⟨b,cur,T',K,hh,hr,_⟩:=y.tV I (show(S'.H 0).c= .box p by rw[V])
     rw[J]at K;simp[Value.pointer.injEq,Qk,qa4]at K;obtain⟨rfl,_⟩:=K
     have A:∀q,Mc true rb X q->bn E S' R q:=by
      rintro q (⟨_,rfl⟩|u)
      .exact .inl ⟨0,I,by rw[V];rfl,by rw[J];rfl⟩
      .exact .inr u
     refine⟨v,cur.toList,rfl,?_,λ_=>⟨?_,hr.closed hcl A⟩,y.fr.toFr⟩
     .refine y.fz A (λid b k U hne m u=> ?_) 9 B
      have hnb:b≠rb:=λe=>hne (by rw[y.apart id 0 b k I U (by rw[V];rfl) m (by rw[J,e];rfl)])
      rcases u with⟨_,u⟩|u
      .exact hnb u
      .rcases((y.obj id k).Ag U m).2 with s|s
       .simp[E,Qr,Qk]at s;exact hnb s.symm
       .have:=hX.lt b u;simp[E]at s;omega
     .exact⟨T',by simpa using hh⟩
    .exact g.elim
  .exact g.elim
 exact Hz hf m (h c hs hc) rfl ⟨rfl,rfl⟩ (λ_=>rfl) rfl hrel λe S' R a' w' s N=>by
  cases e with
  |normal=>exact⟨.inr rfl,fin S' R a' w' s N⟩
  |ret=>exact⟨.inl rfl,fin S' R a' w' s N⟩
  |exit i|goto l|panic c|outgrown=>exact N.elim
def YH(b:Z RV)(R:Z PV->Prop):Exit->St->Prop
 | .ret,S=>match xx S b with
  |some (.ptr id aw 0)=>if(S.H id).aw=aw then(match(S.H id).c with| .box cs=>cs.all PV.closed=true/\R cs|_=>False)else False
  |_=>False
 |_,_=>False
theorem ajN{f:FI}{fn:Func}{c:Code}{sc:SC}{R:Z RV}{d cs:Z PV}(hf:P.funcs[f]?=some fn)(m:fn.body=some c){hs:Z Nat}(hc:aZ P fn.ntmps hs c=some sc)(I:oF P fn.results.toList=some R)
  (U:d.length<=fn.ntmps) (h:VS P fn.ntmps sc (YH R λcs'=>cs'=cs) (eE 0 false [] d)):adS P f d cs:=by
 intro w X hX vs p
 let E:En:={w0:=w,rb:=none,nt:=fn.ntmps,X:=X,H0:=λ_=>False,hX:=⟨λb m=>hX.lt b m.1,λb m=>hX.ng b m.1,hX.gi⟩,Rs:=false,rv:=undef,rk:=false,EL:=λb m=>(by cases m),TE:=λh=>(by cases h),rd:=none,nd:=false,kt:=λ_=>none,wk:={w with heap:=#[]},wm:=w,M0:=λ_=>True}
 let L:Nat->Va:=λ_=> .pointer none
 have H:dp w w X (bn E (eE 0 false [] d) L):=(dp.of λ_ hn u=>hn (by
  rcases u with⟨id,g,_⟩|u
  .simp[eE]at g
  .exact u))
 have hvl:vs.length=d.length:=p.1
 have A:Rel E (eE 0 false [] d) {tmps:=vs.toArray++Array.replicate (fn.ntmps - vs.toArray.size) undef,defers:=[]} w L:=by
  refine⟨Marks.nil rfl,⟨?_,λt v hv=>by cases hv⟩,λt=> ?_,λid g=> ?_,λi j b hi hj _ _ _ _=> ?_,λid g=> ?_,⟨Fr.refl _ _,FB rfl⟩,λm _ _=>(by cases m),Kept.top _ _ _,λid b g _ _ _=>(by simp[eE]at g),λb m=>m.elim⟩
  .simp[E];omega
  .have B:((vs.toArray++Array.replicate (fn.ntmps - vs.toArray.size) undef).getD t undef)=(vs[t]?).getD undef:=by
    rw[Q4,qaW]
    grind
   simp only;rw[B];have ha:=p.mono H (dz.le ((eE 0 false [] d).gh L));show bp w _ _ ((([]++d:Z PV)[t]?).getD .undef) _;rw[List.nil_append]
   cases D:d[t]? with
   |none=>
    have:vs[t]?=none:=by grind
    rw[this];exact .undef
   |some x=>
    let⟨v,hv,J⟩:=ha.get D
    rw[hv];exact J
  .simp[eE]at g
  .simp[eE]at hi
  .simp[eE]
 refine Hz hf m (h c hs hc) rfl ⟨rfl,rfl⟩ (λ_=>rfl) rfl A λe S' L' a' w' u k=> ?_
 cases e with
 |ret=>
  simp only[YH]at k;split at k
  .rename_i id aw D;split at k
   .rename_i r;split at k
    .rename_i cs' y;obtain⟨K,rfl⟩:=k
     let⟨v,hv,s⟩:=Dj u I D
     let⟨V,_⟩:=s.rQ (show(S'.gh L').V id=aw from r)
     let⟨b,F,W⟩:=u.xT s r y
     let⟨b',N,T,z,hh,J,hE⟩:=u.tV V y
     rw[W]at z;simp only[Value.pointer.injEq,Qk,qa4]at z;obtain⟨rfl,_⟩:=z;refine⟨.inl rfl,v,hv,b,N.toList,T,by rw[F],?_,by simpa using hh,?_,u.fr.toFr⟩
     .grind
     .refine J.closed K ?_;rintro q (k|rfl)
      .exact .inr k
      .exact .inl ⟨id,V,by rw[y];rfl,by rw[W];rfl⟩
    .exact k.elim
   .exact k.elim
  .exact k.elim
 |normal|exit i|goto l|panic c|outgrown=>exact k.elim
def xn(e k:Nat)(es:Z (Z PV))(b:Z PV):St:=
 {env:=λt=>((.own 0 0::b)[t]?).getD .undef,H:=λid=>if id=0 then⟨0,.row e k es⟩else⟨0,.dead⟩,N:=1}
def HL(c:Z RV)(e k:Nat)(R:Z (Z PV)->Prop):Exit->St->Prop
 | .ret,S| .normal,S=>match xx S c with
  |some (.own id aw)=>(S.H id).aw=aw/\(match(S.H id).c with
   | .row d k' b=>d=e/\k'=k/\DO b=true/\R b
   |_=>False)
  |_=>False
 |_,_=>False
def ad8{fn:Func}{e k:Nat}{es:Z (Z PV)}{d:Z PV}{w:Wo}{X:Nat->Prop}(hX:zw w X){v:Va}{vs:Z Va}(z:∀b,cq v=some b->¬X b/\¬gb b)(r:Ci w (Mv v X) e k v es)(m:bo w (Mv v X) dz d vs)(F:1+d.length<=fn.ntmps):
  ∃E:En,E.w0=w/\E.rb=cq v/\E.nt=fn.ntmps/\E.X=X/\E.Rs=true/\E.rv=v/\(E.rd=none/\E.nd=false)/\(∀t,E.kt t=none)/\E.wk.heap=#[]/\
   Rel E (xn e k es d) {tmps:=(v::vs).toArray++Array.replicate (fn.ntmps - (v::vs).toArray.size) undef,defers:=[]} w (λ_=>v):=by
 let⟨us,l,hk,J⟩:=r
 have B:∀b,cq v=some b->b<w.heap.size:=by
  intro b f;rcases l.2 with⟨rfl,_⟩|⟨g,cap,p,rfl,_,hh,_⟩
  .cases f
  .grind [cq]
 let E:En:={w0:=w,rb:=cq v,nt:=fn.ntmps,X:=X,H0:=λ_=>False,hX:=⟨λb f=>hX.lt b f.1,λb f=>hX.ng b f.1,hX.gi⟩,Rs:=true,rv:=v,rk:=true,EL:=λb f=>⟨B b f,(z b f).2⟩,TE:=λ_ b f=>(z b f).1,rd:=none,nd:=false,kt:=λ_=>none,wk:={w with heap:=#[]},wm:=w,M0:=λ_=>True}
 have N:∀b,bn E (xn e k es d) (λ_=>v) b↔Mv v X b:=by
  intro b;constructor
  .rintro(⟨id,h,W,f⟩|f)
   .exact .inl f
   .exact .inr f
  .rintro(f|f)
   .exact .inl ⟨0,by simp[xn],by simp[xn,zO.live],f⟩
   .exact .inr f
 have q:dp w w (Mv v X) (bn E (xn e k es d) (λ_=>v)):=(dp.of λ_ K=>λV=>K ((N _).1 V))
 obtain⟨ad,n0,c0,A⟩:∃ad n c,v= .slice ad n c:=by
  rcases l.2 with⟨h1,_⟩|⟨g,cap,p,h1,_⟩
  .exact⟨_,_,_,h1⟩
  .exact⟨_,_,_,h1⟩
 have I:vs.length=d.length:=m.1;refine⟨E,rfl,rfl,rfl,rfl,rfl,rfl,⟨rfl,rfl⟩,λ_=>rfl,rfl,⟨Marks.nil rfl,⟨?_,λt v hv=>by cases hv⟩,λt=> ?_,λid h=> ?_,λi j b hi R _ _ _ _=> ?_,λid h=> ?_,⟨Fr.refl _ _,FB rfl⟩,λ_ _ _=>rfl,Kept.top _ _ _,λid b h _ _ _=>(by simp[xn]at h;omega),λb f=>f.elim⟩⟩
 .simp[E];omega
 .have s:(((v::vs).toArray++Array.replicate (fn.ntmps - (v::vs).toArray.size) undef).getD t undef)=((v::vs)[t]?).getD undef:=by
   rw[Q4,qaW]
   grind
  simp only;rw[s]
  have y:bo w (bn E (xn e k es d) (λ_=>v)) ((xn e k es d).gh (λ_=>v)) (.own 0 0::d) (v::vs):=by refine .cons ?_ (m.mono q (dz.le _));rw[A];exact .own _ _ _ _ _ (by simp[St.gh,xn]) (QT _) (λ_=>rfl)
  show bp w _ _ (((.own 0 0::d:Z PV)[t]?).getD .undef) _
  cases H:((.own 0 0::d:Z PV))[t]? with
  |none=>
   have:(v::vs)[t]?=none:=by grind
   rw[this];exact .undef
  |some x=>
   let⟨u,hu,D⟩:=y.get H
   rw[hu];exact D
 .have:id=0:=by simp[xn]at h;exact h
  subst this;have T:((xn e k es d).H 0).c= .row e k es:=by simp[xn]
  rw[T];refine⟨us,⟨l.1,?_⟩,hk,J.mono q (dz.le _)⟩;rcases l.2 with h1|⟨g,cap,p,h1,_,U⟩
  .exact .inl h1
  .refine .inr ⟨g,cap,p,h1,?_,U⟩
   grind [cq,gE]
 .simp[xn]at hi R;omega
 .simp[xn]at h ⊢;omega
def aa5{E:En}{S':St}{y:Nat->Va}{a':Act}{w':Wo}{X:Nat->Prop}(s:E.X=X)(t:Rel E S' a' w' y){fn:Func}{z:Z RV}(l:oF P fn.results.toList=some z){e k:Nat}{j:Z (Z PV)}(c:HL z e k (λi=>i=j) .ret S'):
  ∃u,(results fn a'.tmps).run P w'= .ok u w'/\Ci w' (Mv u X) e k u j/\∀b,cq u=some b->E.rb=some b\/E.w0.heap.size<=b:=by
 simp[HL]at c;split at c
 .rename_i id aw B
  let⟨f,c⟩:=c
  split at c
  .rename_i J I H A;obtain⟨rfl,rfl,p,rfl⟩:=c
   let⟨u,hu,g⟩:=Dj t l B
   let⟨r,hv⟩:=g.pR (show(S'.gh y).V id=aw from f)
   have hv:u=y id:=hv;subst hv;have d:(S'.H id).c.live=true:=by rw[A];rfl
   let⟨us,h,hk,D⟩:=t.mR r A
   refine⟨_,hu,⟨us,F0 h,hk,D.closed (HO p) ?_⟩,λb F=>((t.obj id r).Ag d F).2⟩
   rintro q (m|m)
   .exact .inl ⟨id,r,d,m⟩
   .exact .inr (by rw[s];exact m)
  .exact c.elim
 .exact c.elim
theorem ajP{f:FI}{fn:Func}{c:Code}{sc:SC}{y:Z RV}{e k:Nat}{es es':Z (Z PV)}{g:Z PV}(I:P.funcs[f]?=some fn)(K:fn.body=some c){hs:Z Nat}(J:aZ P fn.ntmps hs c=some sc)(A:oF P fn.results.toList=some y)
  (s:1+g.length<=fn.ntmps) (h:VS P fn.ntmps sc (HL y e k λd=>d=es') (xn e k es g)):RP P f e k es g es':=by
 intro w X hX v vs B p m
 let⟨E,e1,H,W,V,e5,e6,U,T,R,r⟩:=ad8 (fn:=fn) hX B p m s
 subst e1;refine Hz I K (h c hs J) W U T R r λN S' L' a' w' F D=> ?_
 have fin:HL y e k (λd=>d=es') .ret S'->∃u,(results fn a'.tmps).run P w'= .ok u w'/\∃t,Ending.returned u= .returned t/\Ci w' (Mv t X) e k t es'/\(∀b,cq t=some b->cq v=some b\/E.w0.heap.size<=b)/\Fr (cq v) E.w0 w':=by
  intro q
  let⟨u,hu,j,z⟩:=aa5 V F A q
  refine⟨u,hu,u,rfl,j,?_,by rw[<-H];exact F.fr.toFr⟩
  rw[<-H];exact z
 cases N with
 |normal=>exact⟨.inr rfl,fin D⟩
 |ret=>exact⟨.inl rfl,fin D⟩
 |exit i|goto l|panic c|outgrown=>exact D.elim
theorem ajO{f:FI}{fn:Func}{c:Code}{sc:SC}{B:Z RV}{e k:Nat}{es':Z (Z PV)}{d:Z PV}(W:P.funcs[f]?=some fn)(m:fn.body=some c){hs:Z Nat}(hc:aZ P fn.ntmps hs c=some sc)(F:oF P fn.results.toList=some B)
  (J:d.length<=fn.ntmps) (h:VS P fn.ntmps sc (HL B e k λq=>q=es') (eE 0 false [] d)):aak P f d e k es':=by
 intro w X hX vs p
 let E:En:={w0:=w,rb:=none,nt:=fn.ntmps,X:=X,H0:=λ_=>False,hX:=⟨λb m=>hX.lt b m.1,λb m=>hX.ng b m.1,hX.gi⟩,Rs:=false,rv:=undef,rk:=false,EL:=λb m=>(by cases m),TE:=λh=>(by cases h),rd:=none,nd:=false,kt:=λ_=>none,wk:={w with heap:=#[]},wm:=w,M0:=λ_=>True}
 let L:Nat->Va:=λ_=> .pointer none
 have D:dp w w X (bn E (eE 0 false [] d) L):=(dp.of λ_ V I=>V (by
  rcases I with⟨id,g,_⟩|I
  .simp[eE]at g
  .exact I))
 have R:vs.length=d.length:=p.1
 have y:Rel E (eE 0 false [] d) {tmps:=vs.toArray++Array.replicate (fn.ntmps - vs.toArray.size) undef,defers:=[]} w L:=by
  refine⟨Marks.nil rfl,⟨?_,λt v hv=>by cases hv⟩,λt=> ?_,λid g=> ?_,λi j b hi hj _ _ _ _=> ?_,λid g=> ?_,⟨Fr.refl _ _,FB rfl⟩,λm _ _=>(by cases m),Kept.top _ _ _,λid b g _ _ _=>(by simp[eE]at g),λb m=>m.elim⟩
  .simp[E];omega
  .have z:((vs.toArray++Array.replicate (fn.ntmps - vs.toArray.size) undef).getD t undef)=(vs[t]?).getD undef:=by
    rw[Q4,qaW]
    grind
   simp only;rw[z];have ha:=p.mono D (dz.le ((eE 0 false [] d).gh L));show bp w _ _ ((([]++d:Z PV)[t]?).getD .undef) _;rw[List.nil_append]
   cases N:d[t]? with
   |none=>
    have:vs[t]?=none:=by grind
    rw[this];exact .undef
   |some x=>
    let⟨v,hv,U⟩:=ha.get N
    rw[hv];exact U
  .simp[eE]at g
  .simp[eE]at hi
  .simp[eE]
 refine Hz W m (h c hs hc) rfl ⟨rfl,rfl⟩ (λ_=>rfl) rfl y λen S' L' a' w' K H=> ?_
 have fin:HL B e k (λq=>q=es') .ret S'->∃u,(results fn a'.tmps).run P w'= .ok u w'/\∃A,Ending.returned u= .returned A/\Ci w' (Mv A X) e k A es'/\(∀b,cq A=some b->w.heap.size<=b)/\Fr none w w':=by
  intro s
  let⟨u,hu,r,T⟩:=aa5 (E:=E) rfl K F s
  refine⟨u,hu,u,rfl,r,λb hbb=> ?_,K.fr.toFr⟩
  grind
 cases en with
 |normal=>exact⟨.inr rfl,fin H⟩
 |ret=>exact⟨.inl rfl,fin H⟩
 |exit i|goto l|panic c|outgrown=>exact H.elim
def jD(P:Pr)(f:FI)(nt:Nat)(sc:SC)(b:Z RV):Prop:=
 ∃fn hs,P.funcs[f]?=some fn/\fn.ntmps=nt/\(fn.body.bind (aZ P nt hs))=some sc/\oF P fn.results.toList=some b/\(fn.name== "runtime.NumGoroutine")=false
def jD.enters{f:FI}{sc:SC}{d:Z RV}(h:jD P f nt sc d):Enters P f:=by
 let⟨fn,hs,h1,_,b,_,g⟩:=h
 refine⟨fn,h1,?_,g⟩
 cases e:fn.body with
 |none=>rw[e]at b;cases b
 |some c=>rfl
def jD.T7{f:FI}{sc:SC}{e:Z RV}(h:jD P f nt sc e){pos:Nat}{recv:Bool}{cs b cs':Z PV}{r:PV}(g:(if recv then 1 else 0)+b.length<=nt)
  (hv:VS P nt sc (afZ e recv λj d=>j=r/\(recv=true->d=cs')) (eE pos recv cs b)):Of P f pos recv cs b r cs':=by
 obtain⟨fn,hs,h1,rfl,i,l,_⟩:=h
 cases k:fn.body with
 |none=>rw[k]at i;cases i
 |some c=>grind [afk]
def jD.anW{f:FI}{sc:SC}{d:Z RV}(h:jD P f nt sc d){b cs:Z PV}(e:b.length<=nt)
  (hv:VS P nt sc (YH d λcs'=>cs'=cs) (eE 0 false [] b)):adS P f b cs:=by
 obtain⟨fn,hs,h1,rfl,g,j,_⟩:=h
 cases i:fn.body with
 |none=>rw[i]at g;cases g
 |some c=>grind [ajN]
def jD.anY{f:FI}{sc:SC}{g:Z RV}(h:jD P f nt sc g){e k:Nat}{es es':Z (Z PV)}{b:Z PV}(i:1+b.length<=nt)
  (hv:VS P nt sc (HL g e k λd=>d=es') (xn e k es b)):RP P f e k es b es':=by
 obtain⟨fn,hs,h1,rfl,j,m,_⟩:=h
 cases l:fn.body with
 |none=>rw[l]at j;cases j
 |some c=>grind [ajP]
def jD.anX{f:FI}{sc:SC}{g:Z RV}(h:jD P f nt sc g){e k:Nat}{es':Z (Z PV)}{b:Z PV}(i:b.length<=nt)
  (hv:VS P nt sc (HL g e k λd=>d=es') (eE 0 false [] b)):aak P f b e k es':=by
 obtain⟨fn,hs,h1,rfl,j,m,_⟩:=h
 cases l:fn.body with
 |none=>rw[l]at j;cases j
 |some c=>grind [ajO]
def tab:Z (FI×Model)->sF
 |[],_=>none
 |(g,m)::l,f=>if f=g then some m else tab l f
end
end
section
 def mkM{α:Type}(gu:α->Z PV)(pre:α->Prop)(b:α->PV):Model:=
 {recv:=false,pos:=0,fresh:=false,m:=λ_ c=>open Classical in if h:∃x,c=gu x/\pre x then some (b (Classical.choose h),[])else none,rk:= .no,ro:=false,rm:=λ_ _=>none}
def aeL{α:Type}{gu:α->Z PV}{pre:α->Prop}{b:α->PV}:(mkM gu pre b).fresh=false:=rfl
def agv{α:Type}{gu:α->Z PV}{pre:α->Prop}{b:α->PV}:(mkM gu pre b).recv=false:=rfl
@[simp] def am7 {α:Type} (f:Nat->α) (i:Nat) (x:α) (j:Nat):bZ f i x j=if j=i then x else f j:=rfl
@[simp] def anE (g:FI) (m:Model) (l:Z (FI×Model)) (f:FI):tab ((g,m)::l) f=if f=g then some m else tab l f:=rfl
@[simp] def an2 (S:St) (b:Z Nat) (n t:Nat):(S.cut b n).env t=if t∈b then S.env t else .any:=rfl
@[simp] def aog (S:St) (b:Z Nat) (n id:Nat):(S.cut b n).H id=if id<n then S.H id else⟨0,.dead⟩:=rfl
@[simp] def aof (S:St) (b:Z Nat) (n:Nat):(S.cut b n).N=n:=rfl
attribute [simp] ev Ej zT SG.wanted exec St.cY bD.val St0 eE my UB afZ Di Jb amA xx AD FV fz xy vn yl PV.cells PV.one PV.closed jI N9 Ni Ud pF PV.xU PV.plain PV.tG PV.bP PV.yZ jY
 UH sn D4 H9 Lb jy iS zF Gv agv aeL YH PV.qO
section
variable(n:Nat)
@[simp] def anj:PV.under n .any=true:=rfl
@[simp] def al3:PV.under n .undef=true:=rfl
@[simp] def ang (k:IntKind) (i:Int):PV.under n (.int k i)=true:=rfl
@[simp] def amd (b:Bool):PV.under n (.bool b)=true:=rfl
@[simp] def al4:PV.under n .iD=true:=rfl
@[simp] def ana (s:C):PV.under n (.str s)=true:=rfl
@[simp] def ama:PV.under n .nj=true:=rfl
@[simp] def al9:PV.under n .eV=true:=rfl
@[simp] def anc (cs:Z PV):PV.under n (.ref cs)=true:=rfl
@[simp] def anD (es:Z (Z PV)):PV.under n (.sl es)=true:=rfl
@[simp] def anf (i v:Nat):PV.under n (.own i v)=decide (i<n):=rfl
@[simp] def ane (i v o:Nat):PV.under n (.ptr i v o)=decide (i<n):=rfl
@[simp] def amb (i v k j o:Nat):PV.under n (.fK i v k j o)=decide (i<n):=rfl
@[simp] def al8 (i v k j o:Nat):PV.under n (.view i v k j o)=decide (i<n):=rfl
@[simp] def ank (cs:Z PV):PV.under n (.agg cs)=cs.all (PV.qO n):=rfl
@[simp] def am9 (cs:Z PV):PV.under n (.ff cs)=cs.all (PV.qO n):=rfl
@[simp] def anh (f:FI) (cs:Z PV):PV.under n (.bJ f cs)=cs.all (PV.qO n):=rfl
@[simp] def amc:zO.under n .dead=true:=rfl
@[simp] def ani (cs:Z PV):zO.under n (.box cs)=cs.all (PV.under n):=rfl
@[simp] def anb (e k:Nat) (es:Z (Z PV)):zO.under n (.row e k es)=es.all λu=>u.all (PV.under n):=rfl
end
def Og:Nat->(Nat->Prop)->Prop
 |0,_=>True
 |n+1,p=>Og n p/\p n
def No{p:Nat->Prop}:∀{n:Nat},Og n p↔∀i,i<n->p i
 |0=>by simp[Og]
 |n+1=>by
  rw[Og,No];refine⟨λh i hi=> ?_,λh=>⟨λi hi=>h i O,h n O⟩⟩
  by_cases e:i=n
  .rw[e];exact h.2
  .exact h.1 i O
def afi{S:St}{b:Z Nat}{n:Nat}:adQ S b n↔n<=S.N/\(∀t∈b,(S.env t).under n=true)/\Og n λid=>(S.H id).c.under n=true:=
 ⟨λh=>⟨h.N,h.env,No.2 h.H⟩,λh=>⟨h.1,h.2.1,No.1 h.2.2⟩⟩
attribute [simp] afi Og
def i64_in{n:Int}(h: -9223372036854775808<=n)(b:n<=9223372036854775807):IntKind.i64.wrap n=n:=by rw[qbS];omega
end
end Go.TQ
end
