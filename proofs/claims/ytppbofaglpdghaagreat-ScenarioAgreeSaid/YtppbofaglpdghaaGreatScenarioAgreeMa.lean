/-
  Texts made small by a program (see NOTES). Conditions: those that each theorem names.
-/
import Derived.Maps.AppendAt
import Derived.Below
import Derived.Orders
import Derived.Tactics
import Derived.Deep.MidRow
import Derived.RangeFuncLeaves
import Derived.Laws.Build
import Derived.WalkKit
import Derived.Lib.Bytes
import Derived.Laws.IdiomStrings
import Derived.Laws.Strings3
import Derived.Laws.Slices
import Derived.Laws.Tables
import Derived.Laws.MakeOwn
import Derived.Laws.Cover3
import Derived.Laws.StructEq
import Derived.Sort.LoopGhostIn
import Derived.OrdersIn
set_option linter.unusedVariables false
set_option linter.defProp false
set_option linter.unusedSimpArgs false
set_option linter.unusedSectionVars false
set_option maxHeartbeats 2000000
namespace Go
section
abbrev Y:=Option
abbrev Z:=List
abbrev C:=ByteArray
abbrev Va:=Value
abbrev Wo:=World
abbrev Pr:=Program
abbrev FI:=FuncId
abbrev TI:=TypeId
abbrev Od:=Operand
end
section
def O {p : Prop} (h : p := by omega) : p := h
def o_ {p : Prop} (h : p := by simp; omega) : p := h
def t_ {p : Prop} (h : p := by simp) : p := h
def s_ {p : Prop} (h : p := by decide) : p := h
def d_ {p : Prop} (h : p := by kernel_rfl) : p := h
end
section
def Qa:=@Bool.and_eq_true
def Qb:=@Option.some.injEq
def Qc:=@if_pos
def Qd:=@Option.bind_eq_some_iff
def Qe:=@List.all_eq_true
def Qf:=@if_neg
def Qg:=@Nat.eq_of_beq_eq_true
def Qh:=@Option.bind_eq_bind
def Qi:=@Option.map_eq_some_iff
def Qj:=@List.map_cons
def Qk:=@List.mem_cons
def Ql:=@Nat.le_refl
def Qm:=@Nat.le_of_ble_eq_true
def Qn:=@Option.map_some
def Qo:=@run_underlying
def Qp:=@if_true
def Qq:=@Array.getD_eq_getD_getElem?
def Qr:=@List.mem_append
def Qs:=@List.mem_map
def Qt:=@List.getElem?_map
def Qu:=@Sem.run_bind
def Qv:=@List.getElem?_eq_getElem
def Qw:=@List.length_map
def Qx:=@Bool.or_eq_true
def Qy:=@List.mem_cons_self
def Qz:=@Array.getElem?_eq_some_iff
def QA:=@List.all_cons
def QB:=@decide_eq_true_eq
def QC:=@List.mem_cons_of_mem
def QD:=@List.map_nil
def QE:=@List.mapM_cons
def QF:=@if_false
def QG:=@List.mem_of_getElem?
def QH:=@Nat.lt_of_lt_of_le
def QI:=@Result.andThen_ok
def QJ:=@congrArg
def QK:=@Option.bind_some
def QL:=@List.getElem?_eq_some_iff
def QM:=@Nat.add_mul
def QN:=@Option.pure_def
def QO:=@cond_false
def QP:=@Sem.run_pure
def QQ:=@Bool.false_eq_true
def QR:=@Bool.not_eq_true'
def QS:=@Nat.le_trans
def QT:=@Nat.mul_le_mul_right
def QU:=@Bool.and_true
def QV:=@List.length_cons
def QW:=@List.map_congr_left
def QX:=@Array.toArray_toList
def QY:=@Prod.mk.injEq
def QZ:=@List.length_append
def Q0:=@Array.length_toList
def Q2:=@wpIn_mono
def Q3:=@not_or
def Q4:=@Option.map_none
def Q5:=@Bool.or_eq_false_iff
def Q6:=@congrFun
def Q7:=@Nat.lt_succ_self
def Q8:=@wpIn_seq
def Q9:=@Nat.zero_le
def qaa:=@and_true
def qab:=@Array.getElem?_eq_getElem
def qac:=@List.not_mem_nil
def qad:=@List.pairwise_cons
def qae:=@List.mem_singleton
def qaf:=@and_false
def qag:=@or_false
def qah:=@decide_eq_true
def qai:=@decide_eq_false
def qaj:=@List.append_assoc
def qak:=@List.eq_nil_of_length_eq_zero
def qal:=@Array.getElem?_setIfInBounds_self_of_lt
def qam:=@Nat.zero_add
def qan:=@Nat.ne_of_lt
def qao:=@Nat.ble_eq_true_of_le
def qap:=@cond_true
def qaq:=@List.mem_flatMap
def qar:=@List.getElem_mem
def qas:=@Nat.le_succ
def qat:=@Nat.lt_or_ge
def qau:=@Nat.le_of_eq
def qav:=@Nat.add_comm
def qaw:=@Array.getElem?_append
def qax:=@and_self
def qay:=@List.getElem?_take
def qaz:=@List.pairwise_append
def qaA:=@Oper.semAt_eq
def qaB:=@Nat.min_eq_left
def qaC:=@setRow_heap
def qaD:=@Nat.one_mul
def qaE:=@Nat.ne_of_beq_eq_false
def qaF:=@getElem!_pos
def qaG:=@decide_eq_false_iff_not
def qaH:=@Bool.not_true
def qaI:=@Nat.lt_irrefl
def qaJ:=@Array.toList_map
def qaK:=@not_true_eq_false
def qaL:=@Addr.mk.injEq
def qaM:=@true_and
def qaN:=@wpListIn_step
def qaO:=@wpIn_cond
def qaP:=@Array.getElem?_setIfInBounds_ne
def qaQ:=@wpIn_region_list
def qaR:=@Array.size_map
def qaS:=@List.getD_eq_getElem?_getD
def qaT:=@List.getElem?_eq_none
def qaU:=@Nat.not_lt_zero
def qaV:=@Nat.not_lt
def qaW:=@wpIn_skip
def qaX:=@wpIn_exit
def qaY:=@wpIn_ret
def qaZ:=@wpIn_block
def qa0:=@Nat.lt_or_eq_of_le
def qa1:=@of_decide_eq_true
def qa2:=@run_callFunc_extern
def qa3:=@Array.getElem?_toList
def qa4:=@Eq.trans
def qa5:=@List.length_set
def qa6:=@Nat.le_add_right
def qa7:=@Array.eq_empty_of_size_eq_zero
def qa8:=@heap_alloc_new
def qa9:=@Nat.add_sub_cancel_left
def qba:=@Prod.exists
def qbb:=@Array.getElem?_replicate
def qbc:=@wpListIn_plain
def qbd:=@Bool.false_or
def qbe:=@Nat.beq_refl
def qbf:=@Nat.min_def
def qbg:=@Nat.mul_one
def qbh:=@List.drop_eq_getElem_cons
def qbi:=@List.mem_of_mem_take
def qbj:=@List.mem_of_mem_drop
def qbk:=@Option.getD_some
def qbl:=@List.take_length
def qbm:=@Option.isSome_some
def qbn:=@Nat.add_zero
def qbo:=@Array.foldl_toList
def qbp:=@run_storeCells_at
def qbq:=@setRow_other
def qbr:=@run_append_own_at
def qbs:=@Classical.not_not
def qbt:=@exists_false
def qbu:=@Array.mapM_eq_mapM_toList
def qbv:=@IntKind.wrap_i64
def qbw:=@wpIn_loop_ghost
def qbx:=@Int.ofNat_lt
def qby:=@Nat.ne_of_gt
def qbz:=@Nat.lt_or_gt_of_ne
def qbA:=@Array.getElem?_modify
def qbB:=@Array.size_append
def qbC:=@List.length_singleton
def qbD:=@Array.all_eq_true_iff_forall_mem
def qbE:=@Array.size_setIfInBounds
def qbF:=@Classical.choose_spec
def qbG:=@Array.getElem?_eq_none_iff
def qbH:=@Array.getElem?_append_left
def qbI:=@Array.getElem?_mapIdx
end
end Go
open Int (toNat)
open Sum (inl inr)
open List (replicate)
noncomputable section
namespace Go.TQ
section
inductive PV where
 |any
 |undef
 |int (k:IntKind) (n:Int)
 |bool (b:Bool)
 |dP
 |str (s:ByteArray)
 |fD
 |cz
 |aQ (f:FuncId) (caps:List PV)
 |ff (f:FuncId) (first:List PV)
 |agg (cs:List PV)
 |bP (cs:List PV)
 |ptr (id ab off:Nat)
 |ref (cs:List PV)
 |sl (es:List (List PV))
 |own (id ab:Nat)
 |ct (id ab k i off:Nat)
 |view (id ab k lo n:Nat)
 |gl (ks vs:List PV)
 |jd (b:Bool)
 |fF (T:TypeId) (x:PV)
def PV.plain:PV->Bool
 | .int ..| .bool _| .dP| .str _| .fD| .cz| .any| .undef| .jd _| .fF ..=>true
 |_=>false
structure Gh where
 N:Nat
 L:Nat->Value
 V:Nat->Nat
def cr:Gh:=⟨0,λ_=> .bool false,λ_=>0⟩
def br:Va->Y Nat
 | .pointer (some a)| .slice (some a) _ _=>some a.block
 |_=>none
def Km(l:Va)(k lo n:Nat)(a:Y Addr)(c:Nat):Prop:=
 ∃b m c0,l= .slice b m c0/\lo+n<=m/\m<=c0/\c=c0 - lo/\((n=0/\lo≠0/\(a=none->b=none))\/a=b.map (·.add (lo*k)))
inductive aJ (w:World) (M:Nat->Prop):Gh->PV->Value->Prop where
 |any {G:Gh} (v:Value):aJ w M G .any v
 |undef {G:Gh}:aJ w M G .undef Go.undef
 |int {G:Gh} (k:IntKind) (n:Int):aJ w M G (.int k n) (.int k n)
 |bool {G:Gh} (b:Bool):aJ w M G (.bool b) (.bool b)
 |dP {G:Gh} (b:Bool):aJ w M G .dP (.bool b)
 |str {G:Gh} (s:ByteArray):aJ w M G (.str s) (.string s)
 |fD {G:Gh}:aJ w M G .fD (.pointer none)
 |cz {G:Gh}:aJ w M G .cz (.slice none 0 0)
 |aQ {G:Gh} (f:FuncId) (caps:List PV) (vs:List Value) (hl:vs.length=caps.length) (h:∀(i:Nat) (x:PV) (v:Value),caps[i]?=some x->vs[i]?=some v->aJ w M G x v):aJ w M G (.aQ f caps) (.func (.func f) #[] vs.toArray)
 |ff {G:Gh} (f:FuncId) (cs:List PV) (vs:List Value) (hl:vs.length=cs.length) (h:∀(i:Nat) (x:PV) (v:Value),cs[i]?=some x->vs[i]?=some v->aJ w M G x v):aJ w M G (.ff f cs) (.func (.func f) vs.toArray #[])
 |agg {G:Gh} (cs:List PV) (vs:List Value) (hl:vs.length=cs.length) (h:∀(i:Nat) (x:PV) (v:Value),cs[i]?=some x->vs[i]?=some v->aJ w M G x v):aJ w M G (.agg cs) (.agg vs.toArray)
 |bP {G:Gh} (cs:List PV) (vs:List Value) (hl:vs.length=cs.length) (h:∀(i:Nat) (x:PV) (v:Value),cs[i]?=some x->vs[i]?=some v->aJ w M G x v):aJ w M G (.bP cs) (.tuple vs.toArray)
 |ptr {G:Gh} (id ab off:Nat) (a:Option Addr) (hN:id<G.N) (hV:ab<=G.V id) (h:ab=G.V id->a=(br (G.L id)).map λb=>⟨b,off,none⟩):aJ w M G (.ptr id ab off) (.pointer a)
 |ref {G:Gh} (cs:List PV) (a:Addr) (vs:List Value) (hl:vs.length=cs.length) (hc:∀(i:Nat) (v:Value),vs[i]?=some v->w.cell? (a.add i)=some v/\¬M a.block)
   (h:∀(i:Nat) (x:PV) (v:Value),cs[i]?=some x->vs[i]?=some v->aJ w M cr x v):aJ w M G (.ref cs) (.pointer (some a))
 |sl {G:Gh} (es:List (List PV)) (a:Addr) (c k:Nat) (vs:List Value) (hk:∀e∈es,e.length=k) (hl:vs.length=es.flatten.length) (hc:∀(i:Nat) (v:Value),vs[i]?=some v->w.cell? (a.add i)=some v/\¬M a.block)
   (h:∀(i:Nat) (x:PV) (v:Value),es.flatten[i]?=some x->vs[i]?=some v->aJ w M cr x v) (hn:es.length<=c) (hm:c<=maxLen):aJ w M G (.sl es) (.slice (some a) es.length c)
 |slnil {G:Gh}:aJ w M G (.sl []) (.slice none 0 0)
 |own {G:Gh} (id ab:Nat) (a:Option Addr) (n c:Nat) (hN:id<G.N) (hV:ab<=G.V id) (h:ab=G.V id-> .slice a n c=G.L id):aJ w M G (.own id ab) (.slice a n c)
 |ct {G:Gh} (id ab k i off:Nat) (a:Option Addr) (hN:id<G.N) (hV:ab<=G.V id) (h:ab=G.V id->a=(br (G.L id)).map λb=>⟨b,i*k+off,none⟩):aJ w M G (.ct id ab k i off) (.pointer a)
 |view {G:Gh} (id ab k lo n:Nat) (a:Option Addr) (c:Nat) (hN:id<G.N) (hV:ab<=G.V id) (h:ab=G.V id->Km (G.L id) k lo n a c):aJ w M G (.view id ab k lo n) (.slice a n c)
 |gl {G:Gh} (ks vs:List PV) (b:Nat) (es:Array MapEntry) (ck:Nat) (hb:w.heap[b]?=some (.map es ck)) (hM:¬M b) (hk:es.size=ks.length) (hv:es.size=vs.length)
   (h1:∀(i:Nat) (x:PV) (e:MapEntry),ks[i]?=some x->es[i]?=some e->aJ w M cr x e.key) (h2:∀(i:Nat) (x:PV) (e:MapEntry),vs[i]?=some x->es[i]?=some e->aJ w M cr x e.val):aJ w M G (.gl ks vs) (.map (some b))
 |qq {G:Gh}:aJ w M G (.jd true) .nilIface
 |rW {G:Gh} (T:TypeId) (v:Value):aJ w M G (.jd false) (.iface T v)
 |fF {G:Gh} (T:TypeId) (x:PV) (v:Value) (hp:x.plain=true) (h:aJ w M cr x v):aJ w M G (.fF T x) (.iface T v)
def aK(w:Wo)(M:Nat->Prop)(G:Gh)(cs:Z PV)(vs:Z Va):Prop:=
 vs.length=cs.length/\∀(i:Nat) (x:PV) (v:Va),cs[i]?=some x->vs[i]?=some v->aJ w M G x v
structure Gh.le (G G':Gh):Prop where
 N:G.N<=G'.N
 at_:∀id,id<G.N->(G.V id=G'.V id/\G.L id=G'.L id)\/G.V id<G'.V id
def Gh.le.refl(G:Gh):G.le G:=⟨Ql _,λ_ _=> .inl ⟨rfl,rfl⟩⟩
structure bO (w w':World) (M M':Nat->Prop):Prop where
 c:∀(a:Addr) (v:Value),w.cell? a=some v->¬M a.block->w'.cell? a=some v/\¬M' a.block
 m:∀(b:Nat) (es:Array MapEntry) (ck:Nat),w.heap[b]?=some (.map es ck)->¬M b->w'.heap[b]?=some (.map es ck)/\¬M' b
def bO.of{w:Wo}{M M':Nat->Prop}(h:∀b,¬M b->¬M' b):bO w w M M':=⟨λ_ _ d c=>⟨d,h _ c⟩,λ_ _ _ e c=>⟨e,h _ c⟩⟩
def bO.trans{a b c:Wo}{M M' M'':Nat->Prop}(h:bO a b M M')(k:bO b c M' M''):bO a c M M'':=
 ⟨λp v d e=>let⟨h1,f⟩:=h.c p v d e;k.c p v h1 f,λp es g d e=>let⟨h1,f⟩:=h.m p es g d e;k.m p es g h1 f⟩
def aJ.UO{w w':Wo}{M M':Nat->Prop}{G:Gh}(hs:bO w w' M M'){x:PV}{v:Va}(h:aJ w M G x v):∀G',G.le G'->aJ w' M' G' x v:=by
 induction h with
 |any v=>exact λ_ _=> .any v
 |undef=>exact λ_ _=> .undef
 |int k n=>exact λ_ _=> .int k n
 |bool b=>exact λ_ _=> .bool b
 |dP b=>exact λ_ _=> .dP b
 |str s=>exact λ_ _=> .str s
 |fD=>exact λ_ _=> .fD
 |cz=>exact λ_ _=> .cz
 |aQ f u vs p _ m=>exact λG' d=> .aQ f u vs p λi x v j g=>m i x v j g G' d
 |ff f cs vs p _ m=>exact λG' d=> .ff f cs vs p λi x v j g=>m i x v j g G' d
 |agg cs vs p _ m=>exact λG' d=> .agg cs vs p λi x v j g=>m i x v j g G' d
 |bP cs vs p _ m=>exact λG' d=> .bP cs vs p λi x v j g=>m i x v j g G' d
 |ptr id ab off a l D h=>
  intro G' d;refine .ptr id ab off a (QH l d.N) ?_ ?_
  .rcases d.at_ id l with⟨e,_⟩|e<;>omega
  .intro e;rcases d.at_ id l with⟨t,r⟩|t
   .rw[<-r];exact h O
   .omega
 |ref cs a vs p B _ m=>
  intro G' _
  exact .ref cs a vs p (λi v g=>by
   let⟨h1,F⟩:=B i v g
   have q:(a.add i).block=a.block:=by unfold Addr.add;split<;>rfl
   have:=hs.c _ _ h1 (by rw[q];exact F)
   rw[q]at this
   exact this) λi x v j g=>m i x v j g cr (Gh.le.refl _)
 |sl es a c k vs hk p B _ J hm m=>
  intro G' _
  exact .sl es a c k vs hk p (λi v g=>by
   let⟨h1,F⟩:=B i v g
   have q:(a.add i).block=a.block:=by unfold Addr.add;split<;>rfl
   have:=hs.c _ _ h1 (by rw[q];exact F)
   rw[q]at this
   exact this) (λi x v j g=>m i x v j g cr (Gh.le.refl _)) J hm
 |slnil=>exact λ_ _=> .slnil
 |own id ab a n c l D h=>
  intro G' d;refine .own id ab a n c (QH l d.N) ?_ ?_
  .rcases d.at_ id l with⟨e,_⟩|e<;>omega
  .intro e;rcases d.at_ id l with⟨t,r⟩|t
   .rw[<-r];exact h O
   .omega
 |ct id ab k i off a l D h=>
  intro G' d;refine .ct id ab k i off a (QH l d.N) ?_ ?_
  .rcases d.at_ id l with⟨e,_⟩|e<;>omega
  .intro e;rcases d.at_ id l with⟨t,r⟩|t
   .rw[<-r];exact h O
   .omega
 |view id ab k lo n a c l D h=>
  intro G' d;refine .view id ab k lo n a c (QH l d.N) ?_ ?_
  .rcases d.at_ id l with⟨e,_⟩|e<;>omega
  .intro e;rcases d.at_ id l with⟨t,r⟩|t
   .rw[<-r];exact h O
   .omega
 |gl ks vs b es K q H hk g _ _ z y=>intro G' _;exact .gl ks vs b es K (hs.m _ _ _ q H).1 (hs.m _ _ _ q H).2 hk g (λi x e j A=>z i x e j A cr (Gh.le.refl _)) λi x e j A=>y i x e j A cr (Gh.le.refl _)
 |qq=>exact λ_ _=> .qq
 |rW T v=>exact λ_ _=> .rW T v
 |fF T x v I _ m=>exact λ_ _=> .fF T x v I (m cr (Gh.le.refl _))
def aJ.mono{w w':Wo}{M M':Nat->Prop}{G G':Gh}(hs:bO w w' M M')(b:G.le G'){x:PV}{v:Va}(h:aJ w M G x v):aJ w' M' G' x v:=h.UO hs G' b
def cr.le(G:Gh):cr.le G:=⟨Q9 _,λ_ h=>absurd h (qaU _)⟩
def aK.mono{w w':Wo}{M M':Nat->Prop}{G G':Gh}(hs:bO w w' M M')(d:G.le G'){cs:Z PV}{vs:Z Va}(h:aK w M G cs vs):aK w' M' G' cs vs:=
 ⟨h.1,λi x v b c=>(h.2 i x v b c).mono hs d⟩
section
variable{w:Wo}{M:Nat->Prop}{G:Gh}
def aK.nil:aK w M G [] []:=⟨rfl,λi x v h _=>by simp at h⟩
def aK.cons{x:PV}{v:Va}{cs:Z PV}{vs:Z Va}(h:aJ w M G x v)(t:aK w M G cs vs):aK w M G (x::cs) (v::vs):=by
 refine⟨by simp[t.1],λi y u b c=> ?_⟩
 cases i with
 |zero=>simp at b c;subst b c;exact h
 |succ i=>simp at b c;exact t.2 i y u b c
def aK.cons_inv{x:PV}{cs:Z PV}{vs:Z Va}(h:aK w M G (x::cs) vs):∃v vs',vs=v::vs'/\aJ w M G x v/\aK w M G cs vs':=by
 let⟨b,h⟩:=h
 cases vs with
 |nil=>simp at b
 |cons v vs=>exact⟨v,vs,rfl,h 0 x v t_ t_,by simpa using b,λi y u c d=>h (i+1) y u (by simpa using c) (by simpa using d)⟩
def aK.lO{vs:Z Va}(h:aK w M G [] vs):vs=[]:=qak h.1
def aK.append{cs d:Z PV}{vs us:Z Va}(h:aK w M G cs vs)(k:aK w M G d us):aK w M G (cs++d) (vs++us):=by
 refine⟨by simp[h.1,k.1],λi x v b c=> ?_⟩
 by_cases hi:i<cs.length
 .rw[List.getElem?_append_left hi]at b;rw[List.getElem?_append_left (by rw[h.1];exact hi)]at c
  exact h.2 i x v b c
 .rw[List.getElem?_append_right O]at b;rw[List.getElem?_append_right (by rw[h.1];omega),h.1]at c
  exact k.2 _ x v b c
def aK.take{cs:Z PV}{vs:Z Va}(h:aK w M G cs vs)(n:Nat):aK w M G (cs.take n) (vs.take n):=by
 refine⟨by simp[h.1],λi x v b c=> ?_⟩
 rw[qay]at b c;split at b
 .rename_i hi;rw[Qc hi]at c;exact h.2 i x v b c
 .cases b
def aK.drop{cs:Z PV}{vs:Z Va}(h:aK w M G cs vs)(n:Nat):aK w M G (cs.drop n) (vs.drop n):=by
 refine⟨by simp[h.1],λi x v b c=> ?_⟩
 rw[List.getElem?_drop]at b c;exact h.2 _ x v b c
def aK.get{cs:Z PV}{vs:Z Va}(h:aK w M G cs vs){i:Nat}{x:PV}(b:cs[i]?=some x):∃v,vs[i]?=some v/\aJ w M G x v:=by
 have hi:i<vs.length:=by rw[h.1];exact(QL.1 b).1
 exact⟨vs[i],Qv hi,h.2 i x _ b (Qv hi)⟩
def PV.one:PV->Bool
 | .int ..| .bool _| .dP| .str _| .fD| .cz| .aQ ..| .ff ..| .ptr ..| .ct ..| .ref _| .sl _| .own ..| .view ..| .gl ..| .jd _| .fF ..=>true
 |_=>false
def PV.cells:PV->Z PV
 | .agg cs=>cs
 |x=>[x]
def aJ.one{x:PV}{v:Va}(h:aJ w M G x v)(b:x.one=true):v.oneCell'=true/\v.cells=#[v]:=by cases h<;>simp[PV.one]at b<;>exact⟨rfl,rfl⟩
def aJ.cells{x:PV}{v:Va}(h:aJ w M G x v)(d:∀y∈x.cells,y.one=true):aK w M G x.cells v.cells.toList/\∀u∈v.cells.toList,u.oneCell'=true:=by
 have go:∀{cs:Z PV} {vs:Z Va},aK w M G cs vs->(∀y∈cs,y.one=true)->∀u∈vs,u.oneCell'=true:=by
  intro cs vs c d u f;obtain⟨i,hi,rfl⟩:=List.mem_iff_getElem.1 f;have b:i<cs.length:=by rw[<-c.1];exact hi
  exact((c.2 i cs[i] vs[i] (Qv b) (Qv hi)).one (d _ (qar b))).1
 cases b:x with
 |agg cs=>
  subst b
  cases h with
  |agg _ vs g h=>have c:aK w M G cs vs:=⟨g,h⟩;exact⟨by simpa[PV.cells,Value.cells]using c,by simpa[Value.cells]using go c (by simpa[PV.cells]using d)⟩
 |_=>
  have e:x.cells=[x]:=by rw[b];rfl
  rw[<-b];rw[e]at d
  let⟨k,j⟩:=h.one (d x t_)
  rw[e,j];exact⟨.cons h .nil,by simpa using k⟩
end
end
section
open Go.RowKit
inductive jl where
 |dead
 |box (cs:List PV)
 |row (e:TypeId) (k:Nat) (es:List (List PV))
structure dq where
 ab:Nat
 c:jl
def jl.live:jl->Bool
 | .dead=>false
 |_=>true
structure St where
 env:Nat->PV
 H:Nat->dq
 N:Nat
def bd{α:Type}(f:Nat->α)(i:Nat)(x:α):Nat->α:=λj=>if j=i then x else f j
theorem bf{α:Type}(f:Nat->α)(i:Nat)(x:α):bd f i x i=x:=by simp[bd]
theorem bo{α:Type}(f:Nat->α){i j:Nat}(x:α)(h:j≠i):bd f i x j=f j:=by simp[bd,h]
def Nu:Obj->Bool
 | .cells ..=>true
 |_=>false
def Bg:Obj->Bool
 | .cells ..| .map ..=>true
 |_=>false
def La{o:Obj}(h:Nu o=true):Bg o=true:=by cases o<;>first|rfl|cases h
structure Kept (w w':World) (M M':Nat->Prop):Prop where
 k:∀(b:Nat) (o:Obj),w.heap[b]?=some o->Bg o=true->¬M b->w'.heap[b]?=some o/\¬M' b
def Kept.trans{a b c:Wo}{M M' M'':Nat->Prop}(h:Kept a b M M')(k:Kept b c M' M''):Kept a c M M'':=⟨λq o i d g=>let⟨f,e⟩:=h.k q o i d g;k.k q o f d e⟩
def Kept.top(w w':Wo)(M':Nat->Prop):Kept w w' (λ_=>True) M':=⟨λ_ _ _ _ b=>absurd trivial b⟩
def Kept.of{w:Wo}{M M':Nat->Prop}(h:∀b,¬M b->¬M' b):Kept w w M M':=⟨λb _ d _ c=>⟨d,h b c⟩⟩
def Kept.stays{w w':Wo}{M M':Nat->Prop}(h:Kept w w' M M'):bO w w' M M':=by
 refine⟨λp v c f=> ?_,λb es k i f=>h.k b _ i rfl f⟩
 have g:∃o,w.heap[p.block]?=some o/\Bg o=true:=by
  unfold World.cell? at c
  cases d:w.heap[p.block]? with
  |none=>rw[d]at c;simp at c
  |some o=>refine⟨o,rfl,?_⟩;rw[d]at c;cases o<;>first|rfl|(simp at c)
 let⟨o,d,e⟩:=g
 let⟨h1,j⟩:=h.k _ o d e f
 exact⟨(World.cell?_of_block (h1.trans d.symm)).trans c,j⟩
structure s8 (w w':World):Prop where
 size:w.heap.size<=w'.heap.size
 same:∀(k:Nat) (o:Obj),w.heap[k]?=some o->Nu o=false->w'.heap[k]?=some o
def s8.refl(w:Wo):s8 w w:=⟨Ql _,λ_ _ h _=>h⟩
def s8.trans{a b c:Wo}(h:s8 a b)(k:s8 b c):s8 a c:=⟨QS h.size k.size,λi o hi d=>k.same i o (h.same i o hi d) d⟩
def WF(rd:Y Nat):Fence:={Fence.wide with round:=rd}
def wO{rd:Y Nat}{n:Nat}{P:Pr}{f:FI}{b:Array Va}{w:Wo}{R:Ending->Wo->Prop}:CallsIn (WF rd) n P f b w R↔Calls P f b w R:=
 (show CallsIn (WF rd) n P f b w R↔CallsIn Fence.wide n P f b w R from Iff.rfl).trans callsIn_wide
def Mu:Z (Nat×(Obj->Prop)):=[]
def gb(b:Nat):Prop:=∃q∈Mu,q.1=b
def GI(w:Wo):Prop:=∀q∈Mu,∃o,w.heap[q.1]?=some o/\q.2 o
structure mU (w:World) (X:Nat->Prop):Prop where
 lt:∀b,X b->b<w.heap.size
 ng:∀b,X b->¬gb b
 gi:GI w
def GI.lt{w:Wo}(h:GI w){b:Nat}(d:gb b):b<w.heap.size:=by
 obtain⟨q,c,rfl⟩:=d
 let⟨o,e,_⟩:=h q c
 grind
def GI.bY{w w':Wo}(h:GI w)(f:∀b,gb b->w'.heap[b]?=w.heap[b]?):GI w':=λq c=>by
 let⟨o,e,d⟩:=h q c
 exact⟨o,(f _ ⟨q,c,rfl⟩).trans e,d⟩
def mU.nil{w:Wo}(h:GI w):mU w λ_=>False:=⟨λ_ b=>b.elim,λ_ b=>b.elim,h⟩
structure En where
 w0:World
 rb:Option Nat
 nt:Nat
 rd:Option Nat
 nd:Bool
 kt:Nat->Option Value
 wk:World
 wm:World
 M0:Nat->Prop
 X:Nat->Prop
 H0:Nat->Prop
 hX:mU w0 λb=>X b/\¬H0 b
 Fi:Bool
 rv:Value
 rk:Bool
 gn:Nat->Option (Nat×Value):=λ_=>none
 vK:∀b,rb=some b->b<w0.heap.size/\¬gb b
 Gy:rk=true->∀b,rb=some b->¬X b
def dW(E:En)(v:Va):Nat:=if E.rk=true/\E.rb≠none/\br v=E.rb then 0 else E.w0.heap.size
def vr{E:En}{v v':Va}(h:br v=br v'):dW E v=dW E v':=by simp[dW,h]
def FT(E:En)(v:Va):dW E v<=E.w0.heap.size:=by unfold dW;split<;>omega
theorem El{E:En}{v:Va}{g:Nat}(h:br v=some g)(b:E.w0.heap.size<=g):dW E v=E.w0.heap.size:=by unfold dW;rw[Qf];rintro⟨_,_,h1⟩;rw[h]at h1;have:=(E.vK g h1.symm).1;omega
def AJ{E:En}{v:Va}{g:Nat}(h:br v=some g)(b:dW E v<=g):(E.rk=true/\E.rb=some g)\/E.w0.heap.size<=g:=by grind [dW]
def jr:Bool:=true
def DL(w w':Wo):Prop:=jr=true->w.drawn<=w'.drawn
def DL.refl(w:Wo):DL w w:=λ_=>Ql _
def DL.of{w w':Wo}(h:w.drawn<=w'.drawn):DL w w':=λ_=>h
def DL.trans{a b c:Wo}(h:DL a b)(k:DL b c):DL a c:=λe=>QS (h e) (k e)
structure Fr (rb:Option Nat) (w0 w:World):Prop where
 os:w.os=w0.os
 tape:w.tape=w0.tape
 output:w.output=w0.output
 size:w0.heap.size<=w.heap.size
 block:∀b,b<w0.heap.size->rb≠some b->w.heap[b]?=w0.heap[b]?
 drawn:DL w0 w
def Fr.refl(rb:Y Nat)(w:Wo):Fr rb w w:=⟨rfl,rfl,rfl,Ql _,λ_ _ _=>rfl,DL.refl _⟩
def aH(E:En)(S:St)(L:Nat->Va)(b:Nat):Prop:=(∃id,id<S.N/\(S.H id).c.live=true/\br (L id)=some b)\/E.X b
def St.gh(S:St)(L:Nat->Va):Gh:=⟨S.N,L,λid=>(S.H id).ab⟩
def iE(E:En)(w:Wo)(M:Nat->Prop)(G:Gh)(v:Va):jl->Prop
 | .dead=>True
 | .box cs=>∃(b:Nat) (c:Array Va) (T:TI),v= .pointer (some ⟨b,0,none⟩)/\w.heap[b]?=some (.cells c T (0,0))/\(E.rb=some b\/E.w0.heap.size<=b)/\aK w M G cs c.toList
 | .row e k es=>∃(vs:Z Va),w.ownsRow (dW E v) e k v es.length vs/\(∀x∈es,x.length=k)/\aK w M G es.flatten vs
def En.can(E:En)(d:Nat):Prop:=d<E.nt/\E.kt d=none
structure Marks (E:En) (a:Act) (w:World):Prop where
 none:E.nd=true->a.defers=[]
 nodup:a.defers.Nodup
 at_:∀d∈a.defers,∃D,d={target:= .collected D,args:=#[]}/\E.w0.heap.size<=D/\w.heap[D]?=some (.deferred (some []))
def Marks.nil{E:En}{a:Act}{w:Wo}(h:a.defers=[]):Marks E a w:=⟨λ_=>h,by rw[h];exact List.nodup_nil,λd b=>by rw[h]at b;cases b⟩
structure We (E:En) (w:World):Prop extends Fr E.rb E.w0 w where
 ko:s8 E.wk w
structure Rel (E:En) (S:St) (a:Act) (w:World) (L:Nat->Value):Prop where
 defers:Marks E a w
 size:a.tmps.size=E.nt/\∀t v,E.kt t=some v->a.tmps.getD t undef=v
 env:∀t,aJ w (aH E S L) (S.gh L) (S.env t) (a.tmps.getD t undef)
 obj:∀id,id<S.N->iE E w (aH E S L) (S.gh L) (L id) (S.H id).c
 apart:∀i j b,i<S.N->j<S.N->(S.H i).c.live=true->(S.H j).c.live=true->br (L i)=some b->br (L j)=some b->i=j
 fresh:∀id,S.N<=id->S.H id=⟨0,.dead⟩
 fr:We E w
 sV:E.Fi=true->(S.H 0).c.live=true->(S.H 0).ab=0->L 0=E.rv
 gn:∀id n v,E.gn id=some (n,v)->id<S.N/\n<=(S.H id).ab/\((S.H id).ab=n->L id=v)
 an:Kept E.wm w E.M0 (aH E S L)/\(∀id b,id<S.N->(S.H id).c.live=true->br (L id)=some b->E.rb=some b->id=0)/\
  ∀b,E.H0 b->¬gb b/\(∃o,E.wm.heap[b]?=some o/\Bg o=true/\w.heap[b]?=some o)/\∀id,id<S.N->(S.H id).c.live=true->br (L id)≠some b
def qm(E:En)(S:St):Prop:=∀id n v,E.gn id=some (n,v)->id<S.N/\n<=(S.H id).ab
def qm.none{E:En}{S:St}(h:∀id,E.gn id=none):qm E S:=λid n v hi=>by rw[h]at hi;cases hi
def Rel.MP{E:En}{S:St}{a:Act}{w:Wo}{L:Nat->Va}(h:Rel E S a w L):qm E S:=λid n v hi=>let⟨h1,b,_⟩:=h.gn id n v hi;⟨h1,b⟩
theorem C8(a:Addr)(i:Nat):(a.add i).block=a.block:=by unfold Addr.add;split<;>rfl
def Ll{w:Wo}{a:Addr}{v:Va}(h:w.cell? a=some v):a.block<w.heap.size:=World.block_lt_of_cell? w a h
def iE.mono{E:En}{w w':Wo}{M M':Nat->Prop}{G G':Gh}{v:Va}{c:jl}(hs:bO w w' M M')(m:G.le G')
  (n:∀b,br v=some b->b<w.heap.size->w'.heap[b]?=w.heap[b]?) (h:iE E w M G v c):iE E w' M' G' v c:=by
 cases c with
 |dead=>trivial
 |box cs=>obtain⟨b,d,T,rfl,f,q,i⟩:=h;exact⟨b,d,T,rfl,(n b rfl (Qz.1 f).1).trans f,q,i.mono hs m⟩
 |row e k cs=>
  let⟨vs,l,hk,i⟩:=h
  refine⟨vs,⟨l.1,?_⟩,hk,i.mono hs m⟩;rcases l.2 with p|⟨g,cap,d,rfl,j,f,rest⟩
  .exact .inl p
  .exact .inr ⟨g,cap,d,rfl,j,(n g rfl (Qz.1 f).1).trans f,rest⟩
def iE.pO{E:En}{w:Wo}{M:Nat->Prop}{G:Gh}{v:Va}{c:jl}(h:iE E w M G v c)(m:c.live=true){b:Nat}(f:br v=some b):
  b<w.heap.size/\(E.rb=some b\/E.w0.heap.size<=b):=by
 cases c with
 |dead=>cases m
 |box cs=>
  obtain⟨p,i,T,rfl,j,n,_⟩:=h
  grind [br]
 |row e k cs=>
  let⟨vs,l,_⟩:=h
  rcases l.2 with⟨rfl,_⟩|⟨g,cap,i,rfl,d,j,rest⟩
  .simp[br]at f
  .simp[br,Qb]at f;subst f;exact⟨(Qz.1 j).1,(AJ rfl d).imp (·.2) id⟩
section
variable{E:En}{S:St}{a:Act}{w:Wo}{L:Nat->Va}
def Marks.SQ{w':Wo}(h:Marks E a w)(b:s8 w w'):Marks E a w':=⟨h.none,h.nodup,λd c=>by
 let⟨D,h1,f,e⟩:=h.at_ d c
 exact⟨D,h1,f,b.same D _ e rfl⟩⟩
def iE.cells{M:Nat->Prop}{G:Gh}{v:Va}{c:jl}(h:iE E w M G v c)(l:c.live=true){b:Nat}(d:br v=some b):∃o,w.heap[b]?=some o/\Nu o=true:=by
 cases c with
 |dead=>cases l
 |box cs=>obtain⟨p,i,T,rfl,f,n,_⟩:=h;simp[br,Qb]at d;subst d;exact⟨_,f,rfl⟩
 |row e k cs=>
  let⟨vs,j,_⟩:=h
  rcases j.2 with⟨rfl,_⟩|⟨g,cap,i,rfl,m,f,rest⟩
  .simp[br]at d
  .simp[br,Qb]at d;subst d;exact⟨_,f,rfl⟩
def xk{a:Act}{d t:Nat}{v:Va}(h:t≠d):(a.put (some d) v).tmps.getD t undef=a.tmps.getD t undef:=by
 simp[Act.put,Qq]
 grind
def Rel.put(h:Rel E S a w L){d:Nat}{x:PV}{v:Va}(f:E.can d)(g:aJ w (aH E S L) (S.gh L) x v):
  Rel E {S with env:=bd S.env d x} (a.put (some d) v) w L:=by
 refine⟨⟨h.defers.none,h.defers.nodup,h.defers.at_⟩,⟨by simp[Act.put,h.size.1],λt u b=> ?_⟩,λt=> ?_,h.obj,h.apart,h.fresh,h.fr,h.sV,h.gn,h.an⟩
 .rw[xk (λe=>by subst e;rw[f.2]at b;cases b)]
  exact h.size.2 t u b
 show aJ w (aH E S L) (S.gh L) (bd S.env d x t) _
 by_cases c:t=d
 .subst c;have:(a.put (some t) v).tmps.getD t undef=v:=by simp[Act.put,Qq,qal (show t<a.tmps.size by rw[h.size.1];exact f.1)]
  rw[this,bf];exact g
 .have:(a.put (some d) v).tmps.getD t undef=a.tmps.getD t undef:=by
   simp[Act.put,Qq]
   grind
  rw[this,bo _ _ c];exact h.env t
def Rel.grow(h:Rel E S a w L){w':Wo}(l:w'.os=w.os)(c:w'.tape=w.tape)(f:w'.output=w.output)(e:w.heap.size<=w'.heap.size)
  (d:∀b,b<w.heap.size->w'.heap[b]?=w.heap[b]?) (hdr:DL w w':=by first|exact DL.refl _|exact DL.of (Ql _)|exact DL.of (by first|(simp;done)|omega)):Rel E S a w' L/\bO w w' (aH E S L) (aH E S L):=by
 have hs:bO w w' (aH E S L) (aH E S L):=⟨λp v q g=>⟨(World.cell?_of_block (d _ (Ll q))).trans q,g⟩,λk _ _ i g=>⟨(d k (Qz.1 i).1).trans i,g⟩⟩
 have r:s8 w w':=⟨e,λk o i _=>(d k (Qz.1 i).1).trans i⟩
 refine⟨⟨h.defers.SQ r,h.size,λt=>(h.env t).mono hs (Gh.le.refl _),λid n=>(h.obj id n).mono hs (Gh.le.refl _) (λb _ m=>d b m),h.apart,h.fresh,
  ⟨⟨l.trans h.fr.os,c.trans h.fr.tape,f.trans h.fr.output,QS h.fr.size e,λb j u=>(d b (QH j h.fr.size)).trans (h.fr.block b j u),h.fr.drawn.trans hdr⟩,h.fr.ko.trans r⟩,h.sV,h.gn,h.an.1.trans ⟨λb o j _ g=>⟨(d b (Qz.1 j).1).trans j,g⟩⟩,h.an.2.1,λb s=>(let⟨q1,⟨o,q2,q3,q4⟩,q5⟩:=h.an.2.2 b s;⟨q1,⟨o,q2,q3,(d b (Qz.1 q4).1).trans q4⟩,q5⟩)⟩,hs⟩
def Rel.nW(h:Rel E S a w L){w':Wo}{id:Nat}(F:id<S.N)(o:dq)(l:Va)
  (hv:(o.ab=(S.H id).ab/\l=L id/\(S.H id).c.live=true)\/(S.H id).ab<o.ab)
  (hos:w'.os=w.os) (K:w'.tape=w.tape) (T:w'.output=w.output) (R:w.heap.size<=w'.heap.size)
  (W:∀b,b<w.heap.size->((S.H id).c.live=true->br (L id)≠some b)->w'.heap[b]?=w.heap[b]?)
  (hl:∀b,o.c.live=true->br l=some b->((S.H id).c.live=true/\br (L id)=some b)\/w.heap.size<=b)
  (hnew:bO w w' (aH E S L) (aH E {S with H:=bd S.H id o} (bd L id l))->(S.gh L).le (St.gh {S with H:=bd S.H id o} (bd L id l))->
   iE E w' (aH E {S with H:=bd S.H id o} (bd L id l)) (St.gh {S with H:=bd S.H id o} (bd L id l)) l o.c)
  (hdr:DL w w':=by first|exact DL.refl _|exact DL.of (Ql _)|exact DL.of (by first|(simp;done)|omega)):
  Rel E {S with H:=bd S.H id o} a w' (bd L id l)/\bO w w' (aH E S L) (aH E {S with H:=bd S.H id o} (bd L id l))/\(S.gh L).le (St.gh {S with H:=bd S.H id o} (bd L id l)):=by
 have hg:(S.gh L).le (St.gh {S with H:=bd S.H id o} (bd L id l)):=by
  refine⟨Ql _,λj q=> ?_⟩
  by_cases c:j=id
  .subst c;rcases hv with⟨e1,X,_⟩|e
   .exact .inl ⟨by simp[St.gh,bf,e1],by simp[St.gh,bf,X]⟩
   .grind [St.gh,bf]
  .exact .inl ⟨by simp[St.gh,bo _ _ c],by simp[St.gh,bo _ _ c]⟩
 have hm:∀b,b<w.heap.size->aH E {S with H:=bd S.H id o} (bd L id l) b->aH E S L b:=by
  rintro b s (⟨j,q,m,hblk⟩|hX)
  case inr=>exact .inr hX
  simp only at q m
  by_cases c:j=id
  .subst c;rw[bf]at m hblk;rcases hl b m hblk with⟨g,r⟩|g
   .exact .inl ⟨j,q,g,r⟩
   .omega
  .rw[bo _ _ c]at m hblk;exact .inl ⟨j,q,m,hblk⟩
 have ho:s8 w w':=⟨R,λk o Q hc=>(W k (Qz.1 Q).1 (λg r=>by
  let⟨o',I,h4⟩:=(h.obj id F).cells g r
  rw[Q]at I;injection I with I
  rw[I,h4]at hc
  cases hc)).trans Q⟩
 have hs:bO w w' (aH E S L) (aH E {S with H:=bd S.H id o} (bd L id l)):=by
  refine⟨λp v hp y=> ?_,λk _ _ Q y=>⟨ho.same k _ Q rfl,λB=>y (hm _ (Qz.1 Q).1 B)⟩⟩
  have s:=Ll hp;exact⟨(World.cell?_of_block (W _ s (λg r=>y (.inl ⟨id,F,g,r⟩)))).trans hp,λB=>y (hm _ s B)⟩
 refine⟨⟨h.defers.SQ ho,h.size,λt=>(h.env t).mono hs hg,λj q=> ?_,?_,λj q=> ?_,?_,?_,λj n v q=> ?_,h.an.1.trans ⟨λb o g _ y=> ?_⟩,λj b q d f vK=> ?_,λb hH=> ?_⟩,hs,hg⟩
 rotate_left 6
 .have s:=(Qz.1 g).1;exact⟨(W b s (λr I=>y (.inl ⟨id,F,r,I⟩))).trans g,λB=>y (hm b s B)⟩
 .simp only at q d
  by_cases c:j=id
  .subst c;rw[bf]at d f;rcases hl b d f with⟨g,r⟩|g
   .exact h.an.2.1 j b q g r vK
   .have:=(E.vK b vK).1;have:=h.fr.size;omega
  .rw[bo _ _ c]at d f;exact h.an.2.1 j b q d f vK
 .let⟨q2,⟨o,q3,q5,q6⟩,q4⟩:=h.an.2.2 b hH
  grind [bf,bo]
 .simp only at q ⊢
  by_cases c:j=id
  .grind [bf]
  .rw[bo _ _ c,bo _ _ c]
   cases d:(S.H j).c.live with
   |false=>
    cases hc:(S.H j).c with
    |dead=>trivial
    |box cs|row e k cs=>rw[hc]at d;cases d
   |true=>refine(h.obj j q).mono hs hg (λb f s=>W b s (λg r=>c (h.apart j id b q F d g f r)))
 .intro i j b hi q z u A f;simp only at hi q z u
  by_cases N:i=id
  .by_cases D:j=id
   .rw[N,D]
   .subst N;rw[bf]at z A;rw[bo _ _ D]at u f;rcases hl b z A with⟨g,r⟩|g
    .exact h.apart i j b hi q g u r f
    .have:=((h.obj j q).pO u f).1;omega
  .rw[bo _ _ N]at z A
   by_cases D:j=id
   .subst D;rw[bf]at u f;rcases hl b u f with⟨g,r⟩|g
    .exact h.apart i j b hi q z g A r
    .have:=((h.obj i hi).pO z A).1;omega
   .rw[bo _ _ D]at u f;exact h.apart i j b hi q z u A f
 .simp only at q ⊢;rw[bo _ _ O];exact h.fresh j q
 .refine⟨⟨hos.trans h.fr.os,K.trans h.fr.tape,T.trans h.fr.output,QS h.fr.size R,λb g r=> ?_,h.fr.drawn.trans hdr⟩,h.fr.ko.trans ho⟩
  refine(W b (QH g h.fr.size) (λI h4=> ?_)).trans (h.fr.block b g r)
  rcases((h.obj id F).pO I h4).2 with h5|h5
  .exact r h5
  .omega
 .intro V d J;simp only at d J
  by_cases U:0=id
  .subst U;rw[bf]at d J ⊢;rcases hv with⟨e1,X,e3⟩|e
   .rw[X];exact h.sV V e3 O
   .omega
  .rw[bo _ _ U]at d J ⊢;exact h.sV V d J
 .let⟨g,r,I⟩:=h.gn j n v q
  refine⟨g,?_⟩;simp only
  by_cases c:j=id
  .subst c;rw[bf,bf];rcases hv with⟨e1,X,_⟩|e
   .exact⟨O,λe=>X.trans (I O)⟩
   .exact⟨O,λe=>O⟩
  .rw[bo _ _ c,bo _ _ c];exact⟨r,I⟩
def Rel.drew(h:Rel E S a w L)(n:Nat)(b:w.drawn<=n:=by first|exact Ql _|exact qa6 _ _|exact qas _|assumption|omega):Rel E S a {w with drawn:=n} L:=
 (h.grow (w':={w with drawn:=n}) rfl rfl rfl (Ql _) (λ_ _=>rfl) (DL.of b)).1
def Rel.room(h:Rel E S a w L)(k:Nat):Rel E {S with N:=S.N+k} a w L:=by
 have A:∀b,aH E {S with N:=S.N+k} L b↔aH E S L b:=by
  intro b;constructor
  .rintro(⟨j,p,d,m⟩|hX)
   case inr=>exact .inr hX
   simp only at p d
   by_cases e:j<S.N
   .exact .inl ⟨j,e,d,m⟩
   .rw[h.fresh j O]at d;cases d
  .rintro(⟨j,p,d,m⟩|hX)
   .exact .inl ⟨j,by simp only;omega,d,m⟩
   .exact .inr hX
 have hs:bO w w (aH E S L) (aH E {S with N:=S.N+k} L):=(bO.of λ_ q=>λl=>q ((A _).1 l))
 have B:(S.gh L).le (St.gh {S with N:=S.N+k} L):=⟨by simp[St.gh],λ_ _=> .inl ⟨rfl,rfl⟩⟩
 refine⟨h.defers,h.size,λt=>(h.env t).mono hs B,λid c=> ?_,λi j b hi p g f y u=> ?_,λid c=>h.fresh id (by simp only at c;omega),h.fr,h.sV,λid n v c=>(let⟨h1,F⟩:=h.gn id n v c;⟨QH h1 (qa6 _ _),F⟩),h.an.1.trans (.of λb q l=>q ((A b).1 l)),λid b c d m D=> ?_,λb z=>⟨(h.an.2.2 b z).1,(h.an.2.2 b z).2.1,λid c d=> ?_⟩⟩
 rotate_left 2
 .simp only at c d
  by_cases e:id<S.N
  .exact h.an.2.1 id b e d m D
  .rw[h.fresh id O]at d;cases d
 .simp only at c d
  by_cases e:id<S.N
  .exact(h.an.2.2 b z).2.2 id e d
  .rw[h.fresh id O]at d;cases d
 .by_cases e:id<S.N
  .exact(h.obj id e).mono hs B (λ_ _ _=>rfl)
  .simp only;rw[h.fresh id O];trivial
 .simp only at hi p g f
  have s:i<S.N:=by
   rcases qat i S.N with h1|h1
   .exact h1
   .rw[h.fresh i h1]at g;cases g
  have r:j<S.N:=by
   rcases qat j S.N with h1|h1
   .exact h1
   .rw[h.fresh j h1]at f;cases f
  exact h.apart i j b s r g f y u
def Rel.NW(h:Rel E S a w L){b:Nat}(d:E.X b):b<w.heap.size:=by
 by_cases c:E.H0 b
 .let⟨_,⟨o,_,_,q⟩,_⟩:=h.an.2.2 b c
  grind
 .exact QH (E.hX.lt b ⟨d,c⟩) h.fr.size
def Rel.Wf(h:Rel E S a w L){b:Nat}(d:E.X b):¬gb b:=by
 by_cases c:E.H0 b
 .exact(h.an.2.2 b c).1
 .exact E.hX.ng b ⟨d,c⟩
end
end
section
open Go.RowKit
inductive aM where
 |tmp (t:Nat)
 |ik (x:PV)
def aM.val(S:St):aM->PV
 | .tmp t=>S.env t
 | .ik x=>x
inductive LK where
 |i
 |s
 |b
inductive PQ where
 |Cc
 |iY (lo hi:Bool)
 |PT
 |Nr (T:TypeId)
 |KN (T:TypeId) (z:PV)
 |CN (neg:Bool)
 |neg
 |PA
 |bad
inductive bV where
 |dU (x:aM)
 |pick (c x y:aM)
 |box (x:aM)
 |C7 (x:aM)
 |alloc (z:List PV)
 |load (n:Option Nat) (p:aM)
 |store (n:Nat) (p x:aM)
 |build (z:List PV) (ps:List (Nat×Nat×aM))
 |GW (m:Bool) (e k:Nat) (z:List (List PV)) (ps:List (Nat×aM))
 |sw (off:Nat) (p:aM)
 |mE (k:Nat) (x i:aM)
 |uq (k len:Nat) (x i:aM)
 |bin (op:BinOp) (x y:aM)
 |ox (neg:Bool) (x y:aM)
 |GK (neg:Bool) (x y:aM)
 |not (x:aM)
 |conv (k:IntKind) (x:aM)
 |len (isStr:Bool) (x:aM)
 |call (f:FuncId) (xs:List aM)
 |jS (fv:aM) (xs:List aM)
 |bm (fz:Bool) (e k bytes:Nat) (s x:aM)
 |ug (x:aM)
 |sx (i:Nat) (x:aM)
 |Ik (f:FuncId) (caps:List aM)
 |Il (f:FuncId) (first:List aM)
 |CY (neg:Bool) (ks:List LK) (x y:aM)
 |Ga (e k bytes:Nat) (z:List PV) (l c:aM)
 |B9 (k:Nat) (x:aM) (lo hi:Option aM)
 |rX (mx:Bool) (x y:aM)
 |so (neg:Bool) (x:aM)
 |clear (k:Nat) (z:List PV) (x:aM)
 |Db (e:Nat) (n:Option Nat) (len k:Nat) (x i:aM)
 |Iu (n:Option Nat) (off:Nat) (x:aM)
 |lz (q:PQ) (xs:List aM)
inductive RK where
 |no
 |NL (e k:Nat)
 |GP (e k:Nat)
 |Th (e k:Nat)
structure Model where
 recv:Bool
 pos:Nat
 fresh:Bool
 m:List PV->List PV->Option (PV×List PV)
 rk:RK
 ro:Bool
 rm:List (List PV)->List PV->Option (PV×List (List PV))
abbrev gL:=FuncId->Option Model
def cutAt{α:Type}(p:Nat)(l:Z α):Z α:=l.take p++l.drop (p+1)
def gP{α:Type}(p:Nat)(x l:Z α):Z α:=l.take p++x++l.drop p
def PV.closed:PV->Bool
 | .int ..| .bool _| .str _| .fD| .cz| .sl _| .ref _| .gl ..| .jd _| .fF ..| .aQ _ []=>true
 |_=>false
def PV.kJ:PV->Bool
 | .agg cs=>cs.all PV.plain
 |x=>x.plain
def PV.nZ:PV->Bool
 | .bP cs=>cs.all PV.kJ
 |x=>x.kJ
def PV.aZ:PV->Bool
 | .agg cs| .bP cs| .aQ _ cs=>cs.all PV.closed
 |x=>x.closed
def PV.oW:PV->Bool
 | .bP cs=>cs.all PV.aZ
 |x=>x.aZ
def fz(H:Nat->dq)(ex:Y Nat):Nat->PV->PV
 |0,x=>match x with| .cz=> .sl []|x=>if x.closed then x else .any
 |_+1,.cz=> .sl []
 |n+1,.own id ab=>if some id=ex\/(H id).ab≠ab then .any else
   match(H id).c with
   | .row _ _ es=> .sl (es.map λe=>e.map (fz H ex n))
   |_=> .any
 |n+1,.ptr id ab off=>if some id=ex\/(H id).ab≠ab then .any else
   match(H id).c with
   | .box cs=> .ref ((cs.map (fz H ex n)).drop off)
   |_=> .any
 |n+1,.agg cs=> .agg (cs.map (fz H ex n))
 |n+1,.bP cs=> .bP (cs.map (fz H ex n))
 |n+1,.aQ f cs=> .aQ f (cs.map (fz H ex n))
 |_+1,x=>if x.closed then x else .any
def nz:PV->PV
 | .cz=> .sl []
 |x=>x
def PV.Jt:PV->Bool
 | .cz=>false
 |_=>true
def xo(es:Z (Z PV)):Z (Z PV):=es.map λe=>e.map nz
def ux(es:Z (Z PV)):Bool:=es.all λu=>u.all PV.closed
def Co(es:Z (Z PV)):Bool:=es.all λu=>u.all PV.plain
def tV(m:Model)(e k:Nat)(S:St)(c:Z PV):Y (PV×Y (Nat×dq)):=
 match c with
 | .own id ab::rest=>
  if(S.H id).ab=ab then
   match(S.H id).c with
   | .row f d es=>
    if f=e/\d=k/\ux es=true then
     match m.rm es (rest.map (fz S.H (some id) 9))with
     |some (r,b)=>if(r.nZ||rest.all PV.aZ&&r.oW)&&ux b&&(Co b||rest.all PV.aZ)then some (r,some (id,⟨ab,.row e k b⟩))else none
     |none=>none
    else none
   |_=>none
  else none
 |_=>none
def tU(m:Model)(e k:Nat)(S:St)(c:Z PV):Y (PV×Y (Nat×dq)):=
 match c with
 | .own id ab::rest=>
  if(S.H id).ab=ab then
   match(S.H id).c with
   | .row f d es=>
    if f=e/\d=k/\ux es=true then
     match m.rm es (rest.map (fz S.H (some id) 9))with
     |some (_,b)=>if ux b&&(Co b||rest.all PV.aZ)then some (.own id (ab+1),some (id,⟨ab+1,.row e k b⟩))else none
     |none=>none
    else none
   |_=>none
  else none
 |_=>none
def Ao(m:Model)(e k:Nat)(nid:Nat)(S:St)(b:Z PV):Y (PV×Y (Nat×dq)):=
 match m.rm [] (b.map (fz S.H none 9))with
 |some (_,c)=>if ux c&&(Co c||b.all PV.aZ)then some (.own nid ((S.H nid).ab+1),some (nid,⟨(S.H nid).ab+1,.row e k c⟩))else none
 |none=>none
def gA(Γ:gL)(nid:Nat)(S:St)(f:FI)(b:Z PV):Y (PV×Y (Nat×dq)):=
 match Γ f with
 |none=>none
 |some m=>
  match m.rk with
  | .NL e k=>tV m e k S b
  | .GP e k=>tU m e k S b
  | .Th e k=>Ao m e k nid S b
  | .no=>
  if m.fresh then
   match m.m [] (b.map (fz S.H none 9))with
   |some (_,cs)=>if cs.all PV.closed&&(cs.all PV.plain||b.all PV.aZ)then some (.ptr nid ((S.H nid).ab+1) 0,some (nid,⟨(S.H nid).ab+1,.box cs⟩))else none
   |none=>none
  else if m.recv then
   match b[m.pos]? with
   |some (.ptr id ab 0)=>
    if(S.H id).ab=ab then
     match(S.H id).c with
     | .box cs=>
      if cs.all PV.closed then
       match m.m (cs.map nz) ((cutAt m.pos b).map (fz S.H (some id) 9))with
       |some (r,cs')=>if(r.nZ||(cutAt m.pos b).all PV.aZ)&&r.oW&&cs'.all PV.closed&&(cs'.all PV.plain||(cutAt m.pos b).all PV.aZ)then some (r,if m.ro&&cs.all PV.Jt then none else some (id,⟨ab,.box cs'⟩))else none
       |none=>none
      else none
     |_=>none
    else none
   |_=>none
  else
   match m.m [] (b.map (fz S.H none 9))with
   |some (r,_)=>if r.nZ||b.all PV.aZ&&r.oW then some (r,none)else none
   |none=>none
def C9(op:BinOp)(k:IntKind)(a b:Int):Y PV:=
 match op with
 | .add=>some (.int k (k.wrap (a+b)))
 | .sub=>some (.int k (k.wrap (a - b)))
 | .mul=>some (.int k (k.wrap (a*b)))
 | .quo=>if b=0 then none else some (.int k (k.wrap (a.tdiv b)))
 | .rem=>if b=0 then none else some (.int k (a.tmod b))
 | .and=>some (.int k (k.wrap ((BitVec.ofInt k.bits a&&&BitVec.ofInt k.bits b).toNat)))
 | .or=>some (.int k (k.wrap ((BitVec.ofInt k.bits a|||BitVec.ofInt k.bits b).toNat)))
 | .xor=>some (.int k (k.wrap ((BitVec.ofInt k.bits a^^^BitVec.ofInt k.bits b).toNat)))
 | .andNot=>some (.int k (k.wrap ((BitVec.ofInt k.bits a&&& ~~~ BitVec.ofInt k.bits b).toNat)))
 | .eql=>some (.bool (decide (a=b)))
 | .neq=>some (.bool (!decide (a=b)))
 | .lss=>some (.bool (decide (a<b)))
 | .leq=>some (.bool (decide (a<=b)))
 | .gtr=>some (.bool (decide (b<a)))
 | .geq=>some (.bool (decide (b<=a)))
 |_=>none
def mz(a b:C):Bool:=Op.bytesLess a.toList b.toList
def GX(op:BinOp)(a b:C):Y PV:=
 match op with
 | .eql=>some (.bool (decide (a=b)))
 | .neq=>some (.bool (!decide (a=b)))
 | .lss=>some (.bool (mz a b))
 | .leq=>some (.bool (mz a b||decide (a=b)))
 | .gtr=>some (.bool (!(mz a b||decide (a=b))))
 | .geq=>some (.bool (!mz a b))
 |_=>none
def DD(op:BinOp)(x y:PV):Y PV:=
 match x,y with
 | .int k a,.int c b=>
  match op with
  | .shl=>if b<0 then none else some (.int k (k.wrap (a*2 ^ (min b.toNat k.bits))))
  | .shr=>if b<0 then none else some (.int k (a.fdiv (2 ^ (min b.toNat k.bits))))
  |_=>if k=c then C9 op k a b else none
 | .str a,.str b=>GX op a b
 |_,_=>none
def nH:Y Nat->Z PV->Y PV
 |none,x::_=>some x
 |none,[]=>none
 |some n,cs=>if n<=cs.length then some (.agg (cs.take n))else none
def eL(cs:Z PV)(b:Nat)(xs:Z PV):Z PV:=cs.take b++xs++cs.drop (b+xs.length)
def gQ(S:St):PV->Y (Z (Z PV))
 | .cz=>some []
 | .sl es=>some es
 | .own id ab=>if(S.H id).ab=ab then(match(S.H id).c with| .row _ _ es=>some es|_=>none)else none
 | .view id ab k lo n=>if(S.H id).ab=ab then(match(S.H id).c with| .row _ b es=>if b=k then some ((es.drop lo).take n)else none|_=>none)else none
 |_=>none
def nc(S:St)(y:Y aM)(d:Int):Y Int:=
 match y with
 |none=>some d
 |some l=>match l.val S with| .int _ n=>some n|_=>none
def lS(S:St):Z PV->Z (Nat×Nat×aM)->Y (Z PV)
 |cs,[]=>some cs
 |cs,(off,n,x)::rest=>if(x.val S).cells.length=n/\off+n<=cs.length/\(x.val S).cells.all PV.one=true then lS S (eL cs off (x.val S).cells) rest else none
def ow(S:St)(k:Nat):Z (Z PV)->Z (Nat×aM)->Y (Z (Z PV))
 |es,[]=>some es
 |es,(i,x)::rest=>if(x.val S).cells.length=k/\i<es.length/\(x.val S).cells.all PV.one=true then ow S k (es.set i (x.val S).cells) rest else none
def ij:Z LK->Z PV->Z PV->Y Bool
 |[],[],[]=>some true
 | .i::ks,.int k a::cs,.int l b::c=>if k=l then(ij ks cs c).map λr=>decide (a=b)&&r else none
 | .s::ks,.str a::cs,.str b::c| .b::ks,.bool a::cs,.bool b::c=>(ij ks cs c).map λr=>decide (a=b)&&r
 |_,_,_=>none
def Da(z:Bool)(id ab e k:Nat)(es:Z (Z PV)):Y (PV×Y (Nat×dq)):=
 match z with
 |false=>some (.own id ab,some (id,⟨ab,.row e k es⟩))
 |true=>if es.all (λu=>u.all PV.closed)then some (.sl es,some (id,⟨ab,.dead⟩))else none
def byteOf(n:Int):Y UInt8:=if 0<=n/\n<256 then some (UInt8.ofNat n.toNat)else none
def bytesOf:Z (Z PV)->Y (Z UInt8)
 |[]=>some []
 |[.int .u8 n]::l=>match byteOf n,bytesOf l with
  |some b,some c=>some (b::c)
  |_,_=>none
 |_=>none
def Cc(a b:C):Y C:=if a.size+b.size<=9223372036854775807 then some (a++b)else none
def iY(s:C)(l h:Int):Y C:=if 0<=l/\l<=h/\h<=s.size then some (s.extract l.toNat h.toNat)else none
def jg:PQ->Z PV->Y PV
 | .Cc,[.str a,.str b]=>(Cc a b).map .str
 | .iY false false,[.str s]=>some (.str s)
 | .iY true false,[.str s,.int _ l]=>(iY s l s.size).map .str
 | .iY false true,[.str s,.int _ h]=>(iY s 0 h).map .str
 | .iY true true,[.str s,.int _ l,.int _ h]=>(iY s l h).map .str
 | .PT,[.sl es]=>(bytesOf es).map λl=> .str ⟨l.toArray⟩
 | .Nr T,[x]=>if x.plain&&x.one then some (.fF T x)else none
 | .KN T z,[.fF c x]=>some (if c=T then .bP [x,.bool true]else .bP [z,.bool false])
 | .KN _ z,[.jd true]=>some (.bP [z,.bool false])
 | .CN neg,[.fF ..]=>some (.bool neg)
 | .CN neg,[.jd b]=>some (.bool (xor neg b))
 | .neg,[.int k n]=>some (.int k (k.wrap (0 - n)))
 | .PA,[]=>some .any
 |_,_=>none
def exec(Γ:gL)(nid:Nat)(S:St):bV->Y (PV×Y (Nat×dq))
 | .dU x=>some (x.val S,none)
 | .pick c x y=>match c.val S with
  | .bool true=>some (x.val S,none)
  | .bool false=>some (y.val S,none)
  |_=>none
 | .box x=>if(x.val S).cells.all PV.one then some (.ptr nid ((S.H nid).ab+1) 0,some (nid,⟨(S.H nid).ab+1,.box (x.val S).cells⟩))else none
 | .C7 x=>if(x.val S).cells.all PV.one&&(x.val S).cells.all PV.closed then some (.ref (x.val S).cells,none)else none
 | .alloc z=>some (.ptr nid ((S.H nid).ab+1) 0,some (nid,⟨(S.H nid).ab+1,.box z⟩))
 | .load n p=>match p.val S with
  | .ptr id ab off=>if(S.H id).ab=ab then(match(S.H id).c with| .box cs=>(nH n (cs.drop off)).map (·,none)|_=>none)else none
  | .ct id ab k i off=>if(S.H id).ab=ab then(match(S.H id).c with| .row _ d es=>if k=d then(match es[i]? with|some e=>(nH n (e.drop off)).map (·,none)|none=>none)else none|_=>none)else none
  | .ref cs=>(nH n cs).map (·,none)
  |_=>none
 | .store n p x=>if(x.val S).cells.length=n/\(x.val S).cells.all PV.one=true then
   match p.val S with
   | .ptr id ab off=>if(S.H id).ab=ab then(match(S.H id).c with| .box cs=>if off+n<=cs.length then some (.undef,some (id,⟨ab,.box (eL cs off (x.val S).cells)⟩))else none|_=>none)else none
   | .ct id ab k i off=>if(S.H id).ab=ab then(match(S.H id).c with| .row e d es=>if k=d then(match es[i]? with|some c=>if off+n<=c.length then some (.undef,some (id,⟨ab,.row e k (es.set i (eL c off ((x.val S).cells.map nz)))⟩))else none|none=>none)else none|_=>none)else none
   |_=>none
  else none
 | .build z ps=>(lS S z ps).map λcs=>(.agg cs,none)
 | .GW m e k z ps=>match ow S k z ps with
  |some es=>if m=false/\es.all (λu=>u.all PV.closed)=true then some (.sl (xo es),none)else some (.own nid ((S.H nid).ab+1),some (nid,⟨(S.H nid).ab+1,.row e k (xo es)⟩))
  |none=>none
 | .sw off p=>match p.val S with
  | .ptr id ab o=>if(S.H id).ab=ab then(match(S.H id).c with| .box _=>some (.ptr id ab (o+off),none)|_=>none)else none
  | .ct id ab k i o=>if(S.H id).ab=ab then(match(S.H id).c with| .row _ _ es=>if i<es.length then some (.ct id ab k i (o+off),none)else none|_=>none)else none
  | .ref cs=>some (.ref (cs.drop off),none)
  |_=>none
 | .mE k x i=>match i.val S with
  | .int _ n=>match x.val S with
   | .sl es=>if 0<=n/\n<es.length then(match es[n.toNat]? with|some e=>if e.length=k then some (.ref e,none)else none|none=>none)else none
   | .own id ab=>if(S.H id).ab=ab then(match(S.H id).c with| .row _ d es=>if k=d/\0<=n/\n<es.length then some (.ct id ab k n.toNat 0,none)else none|_=>none)else none
   | .view id ab r lo m=>if(S.H id).ab=ab then(match(S.H id).c with| .row _ d es=>if k=d/\r=k/\0<=n/\n<m/\lo+n.toNat<es.length then some (.ct id ab k (lo+n.toNat) 0,none)else none|_=>none)else none
   |_=>none
  |_=>none
 | .uq k len x i=>match i.val S with
  | .int _ n=>if 0<=n/\n<len then(match x.val S with
   | .ptr id ab o=>if(S.H id).ab=ab then(match(S.H id).c with| .box _=>some (.ptr id ab (o+n.toNat*k),none)|_=>none)else none
   | .ref cs=>some (.ref (cs.drop (n.toNat*k)),none)
   |_=>none)else none
  |_=>none
 | .bin op x y=>(DD op (x.val S) (y.val S)).map (·,none)
 | .ox neg x y=>match x.val S,y.val S with
  | .agg [.int k a,.str s],.agg [.int d b,.str t]=>if k=d then some (.bool (xor neg (decide (a=b)&&decide (s=t))),none)else none
  |_,_=>none
 | .CY neg ks x y=>match x.val S,y.val S with
  | .agg cs,.agg H=>(ij ks cs H).map λb=>(.bool (xor neg b),none)
  |_,_=>none
 | .GK neg x y=>match x.val S,y.val S with
  | .bool a,.bool b=>some (.bool (xor neg (decide (a=b))),none)
  |_,_=>none
 | .not x=>match x.val S with
  | .bool b=>some (.bool !b,none)
  |_=>none
 | .conv k x=>match x.val S with
  | .int _ n=>some (.int k (k.wrap n),none)
  |_=>none
 | .len true x=>match x.val S with
  | .str s=>some (.int .i64 s.size,none)
  |_=>none
 | .len false x=>(gQ S (x.val S)).map λes=>(.int .i64 es.length,none)
 | .call f xs=>gA Γ nid S f (xs.map (·.val S))
 | .jS D xs=>match D.val S with
  | .aQ f g=>gA Γ nid S f (xs.map (·.val S)++g)
  | .ff f first=>gA Γ nid S f (first++xs.map (·.val S))
  |_=>none
 | .bm z e k bytes s x=>match gQ S (x.val S)with
  |some news=>if news.all (λu=>u.length==k&&u.all PV.one)then(match s.val S with
   | .cz=>if news.length*bytes<=140737488355328/\news.length<=maxLen then Da z nid ((S.H nid).ab+1) e k news else none
   | .own id ab=>if(S.H id).ab=ab then(match(S.H id).c with
    | .row F d es=>if e=F/\k=d/\(es.length+news.length)*bytes<=140737488355328/\es.length+news.length<=maxLen then Da z id (ab+1) e k (es++news)else none
    |_=>none)else none
   |_=>none)else none
  |none=>none
 | .ug x=>match x.val S with
  | .ptr id ab off=>if(S.H id).ab=ab then(match(S.H id).c with| .box _=>some (.ptr id ab off,none)|_=>none)else none
  | .ct id ab k i o=>if(S.H id).ab=ab then(match(S.H id).c with| .row _ _ es=>if i<es.length then some (.ct id ab k i o,none)else none|_=>none)else none
  | .ref cs=>some (.ref cs,none)
  | .aQ f cs=>some (.aQ f cs,none)
  |_=>none
 | .sx i x=>match x.val S with
  | .bP cs=>(cs[i]?).map (·,none)
  |_=>none
 | .Ik f g=>some (.aQ f (g.map (·.val S)),none)
 | .Il f first=>some (.ff f (first.map (·.val S)),none)
 | .Ga e k bytes z l c=>match l.val S,c.val S with
  | .int _ n,.int _ m=>if n<=m/\0<=n/\m.toNat*bytes<=140737488355328/\m.toNat<=maxLen then some (.own nid ((S.H nid).ab+1),some (nid,⟨(S.H nid).ab+1,.row e k (replicate n.toNat (z.map nz))⟩))else none
  |_,_=>none
 | .B9 k x lo hi=>match x.val S with
  | .sl es=>if es.all (λe=>e.length==k)then
   match(match lo with|none=>some (0:Int)|some l=>(match l.val S with| .int _ n=>some n|_=>none)),(match hi with|none=>some (es.length:Int)|some h=>(match h.val S with| .int _ n=>some n|_=>none))with
   |some l,some h=>if 0<=l/\l<=h/\h<=es.length then some (.sl ((es.take h.toNat).drop l.toNat),none)else none
   |_,_=>none
   else none
  | .own id ab=>if(S.H id).ab=ab then(match(S.H id).c with
   | .row _ d es=>if k=d then
    match nc S lo 0,nc S hi es.length with
    |some l,some h=>if 0<=l/\l<=h/\h<=es.length then some (.view id ab k l.toNat (h.toNat - l.toNat),none)else none
    |_,_=>none
    else none
   |_=>none)else none
  | .view id ab r A B=>if(S.H id).ab=ab then(match(S.H id).c with
   | .row _ d _=>if k=d/\r=k then
    match nc S lo 0,nc S hi B with
    |some l,some h=>if 0<=l/\l<=h/\h<=B then some (.view id ab k (A+l.toNat) (h.toNat - l.toNat),none)else none
    |_,_=>none
    else none
   |_=>none)else none
  |_=>none
 | .rX mx x y=>match x.val S,y.val S with
  | .int k a,.int d b=>if k=d then some (.int k (if mx then(if b>a then b else a)else(if b<a then b else a)),none)else none
  |_,_=>none
 | .so neg x=>match x.val S with
  | .cz=>some (.bool !neg,none)
  |y=>match gQ S y with
   |some []=>some (.dP,none)
   |some (_::_)=>some (.bool neg,none)
   |none=>none
 | .Db _ n len k x i=>match x.val S,i.val S with
  | .agg cs,.int _ j=>if 0<=j/\j<len then(nH n ((cs.drop (j.toNat*k)).map nz)).map (·,none)else none
  |_,_=>none
 | .Iu n off x=>match x.val S with
  | .agg cs=>(nH n (cs.drop off)).map (·,none)
  |_=>none
 | .lz q xs=>(jg q (xs.map (·.val S))).map (·,none)
 | .clear k z x=>match x.val S with
  | .view id ab r lo n=>if(S.H id).ab=ab then(match(S.H id).c with
   | .row e d es=>if k=d/\r=k/\z.length=k/\z.all PV.one=true then some (.bP [],some (id,⟨ab,.row e k (es.take lo++replicate n (z.map nz)++es.drop (lo+n))⟩))else none
   |_=>none)else none
  |_=>none
structure SG where
 d:Option Nat
 g:Option (Nat×Bool)
 op:bV
def St.bm(S:St)(d:Y Nat)(x:PV)(wr:Y (Nat×dq)):St:=
 {env:=match d with|some d=>bd S.env d x|none=>S.env,H:=match wr with|some (id,o)=>bd S.H id o|none=>S.H,N:=S.N}
def SG.wanted(S:St)(o:SG):Y Bool:=
 match o.g with
 |none=>some true
 |some (t,want)=>match S.env t with
  | .bool b=>some (b==want)
  | .undef=>some false
  |_=>none
def nC(Γ:gL)(nid:Nat)(S:St)(o:SG):Y St:=
 match o.wanted S with
 |some true=>(exec Γ nid S o.op).map λp=>S.bm o.d p.1 p.2
 |some false=>some (S.bm o.d .undef none)
 |none=>none
def qn(Γ:gL):Nat->Z SG->St->Y St
 |_,[],S=>some S
 |nid,o::rest,S=>match nC Γ nid S o with
  |some S'=>qn Γ (nid+1) rest S'
  |none=>none
def qU:Va->Y PV
 | .bool b=>some (.bool b)
 | .int k n=>some (.int k n)
 | .string s=>some (.str s)
 | .pointer none=>some .fD
 | .slice none 0 0=>some .cz
 | .nilFunc=>some .any
 | .nilIface=>some (.jd true)
 |_=>none
def aL:Od->Y aM
 | .tmp t=>some (.tmp t)
 | .const v=>(qU v).map .ik
 | .func f=>some (.ik (.aQ f []))
 | .global _=>none
def nq(P:Pr)(t:TI):Y (Y Nat):=
 match P.underlying t with
 |some (.struct _)|some (.array _ _)=>(P.info? t).map λi=>some i.size
 |some _=>some none
 |none=>none
def oL(P:Pr)(t:TI):Y (Z PV):=
 match P.info? t with
 |some i=>match i.zero with
  |some z=>if z.cells.size=i.size then z.cells.toList.mapM qU else none
  |none=>none
 |none=>none
def pM(b:Nat->Y (Nat×Nat))(c:Z (Nat×Od)):Y (Z (Nat×Nat×aM)):=
 c.mapM λp=>do
  let q <-b p.1
  let y <-aL p.2
  some (q.1,q.2,y)
def HH(P:Pr)(b:TI->Y (Z LK)):Z Field->Nat->Y (Z LK)
 |[],_=>some []
 |f::fs,off=>
  if f.name≠ "_"/\f.offset=off then
   match b f.type,P.info? f.type with
   |some ks,some i=>if i.size=ks.length then(HH P b fs (off+ks.length)).map (ks++·)else none
   |_,_=>none
  else none
def tQ(P:Pr):Nat->TI->Y (Z LK)
 |0,_=>none
 |d+1,t=>match P.underlying t with
  |some (.int _)=>some [.i]
  |some .string=>some [.s]
  |some .bool=>some [.b]
  |some (.struct fs)=>if P.stoodInHeld t=false then HH P (tQ P d) fs.toList 0 else none
  |_=>none
def Pg(hs:Z Nat)(o:Oper):Bool:=match o.dst with|some t=>hs.contains t|none=>false
def uQ(P:Pr)(hs:Z Nat)(o:Oper):Y bV:=
 match o.op with
 | .move x| .assign x=>do some (.dU (<-aL x))
 | .pick c a b=>do some (.pick (<-aL c) (<-aL a) (<-aL b))
 | .box _ x=>do
  let y <-aL x
  some (match o.dst with|some t=>(match hs.contains t with|true=> .C7 y|false=> .box y)|none=> .box y)
 | .alloc t=>do some (.alloc (<-oL P t))
 | .load t p=>do some (.load (<-nq P t) (<-aL p))
 | .store t p x=>do some (.store (<-P.info? t).size (<-aL p) (<-aL x))
 | .build t parts=>
  match P.underlying t with
  |some (.struct fields)=>do
   let z <-oL P t
   let d <-fields.toList.mapM (λf=>(P.info? f.type).map λi=>(f.offset,i.size))
   some (.build z (<-pM (λi=>d[i]?) parts.toList))
  |some (.array _ e)=>do
   let z <-oL P t
   let i <-P.info? e
   some (.build z (<-pM (λj=>some (j*i.size,i.size)) parts.toList))
  |_=>none
 | .buildSlice t len parts=>
  match P.underlying t with
  |some (.slice e)=>do
   let i <-P.info? e
   let z <-oL P e
   let ps <-parts.toList.mapM λp=>(aL p.2).map λy=>(p.1,y)
   if len*i.size<=16777216/\0<i.size/\len<=maxLen then some (.GW (match o.dst with|some t=>hs.contains t|none=>true) e i.size (replicate len z) ps)else none
  |_=>none
 | .fieldAddr s x f=>
  match P.underlying s with
  |some (.struct fields)=>do
   let fd <-fields[f]?
   let i <-P.info? fd.type
   if i.size=0 then none else some (.sw fd.offset (<-aL x))
  |_=>none
 | .indexAddr t x i=>
  match P.underlying t with
  |some (.slice e)=>do some (.mE (<-P.info? e).size (<-aL x) (<-aL i))
  |some (.array n e)=>do some (.uq (<-P.info? e).size n (<-aL x) (<-aL i))
  |_=>none
 | .binOp op t x y _=>
  match P.underlying t with
  |some (.struct fs)=>
   match fs.toList with
   |[f,g]=>
    match P.underlying f.type,P.underlying g.type with
    |some (.int _),some .string=>
     if f.offset=0/\g.offset=1/\f.name≠ "_"/\g.name≠ "_"/\P.stoodInHeld t=false/\P.eqGuardType P.depth t=false then
      match op with
      | .eql=>do some (.ox false (<-aL x) (<-aL y))
      | .neq=>do some (.ox true (<-aL x) (<-aL y))
      |_=>none
     else none
    |_,_=>
     match tQ P 64 t with
     |some ks=>
      if P.eqGuardType P.depth t=false then
       match op with
       | .eql=>do some (.CY false ks (<-aL x) (<-aL y))
       | .neq=>do some (.CY true ks (<-aL x) (<-aL y))
       |_=>none
      else none
     |none=>none
   |_=>
    match tQ P 64 t with
    |some ks=>
     if P.eqGuardType P.depth t=false then
      match op with
      | .eql=>do some (.CY false ks (<-aL x) (<-aL y))
      | .neq=>do some (.CY true ks (<-aL x) (<-aL y))
      |_=>none
     else none
    |none=>none
  |some (.slice _)=>
   match y with
   | .const (.slice none 0 0)=>
    match op with
    | .eql=>do some (.so false (<-aL x))
    | .neq=>do some (.so true (<-aL x))
    |_=>none
   |_=>none
  |some .bool=>
   match op with
   | .eql=>do some (.GK false (<-aL x) (<-aL y))
   | .neq=>do some (.GK true (<-aL x) (<-aL y))
   |_=>none
  |some .string=>
   match op with
   | .add=>do some (.lz .Cc [<-aL x,<-aL y])
   |_=>do some (.bin op (<-aL x) (<-aL y))
  |some (.interface _)=>
   match y with
   | .const .nilIface=>
    match op with
    | .eql=>do some (.lz (.CN false) [<-aL x])
    | .neq=>do some (.lz (.CN true) [<-aL x])
    |_=>none
   |_=>none
  |_=>do some (.bin op (<-aL x) (<-aL y))
 | .unOp .not _ x=>do some (.not (<-aL x))
 | .convert src dst x=>
  match P.underlying src,P.underlying dst with
  |some (.int _),some (.int k)=>do some (.conv k (<-aL x))
  |some (.slice e),some .string=>
   match P.underlying e with
   |some (.int .u8)=>do some (.lz .PT [<-aL x])
   |_=>none
  |_,_=>none
 | .index t x i=>
  match P.underlying t with
  |some (.array len e)=>do some (.Db e (<-nq P e) len (<-P.info? e).size (<-aL x) (<-aL i))
  |_=>none
 | .lookup t m x ok=>some (.lz .bad [])
 | .nilCheck x=>do some (.ug (<-aL x))
 | .extract x i=>do some (.sx i (<-aL x))
 | .makeFunc (.func f) first q=>if first.size=0 then do some (.Ik f (<-q.toList.mapM aL))else if q.size=0 then do some (.Il f (<-first.toList.mapM aL))else none
 | .makeSlice t l c=>
  match P.underlying t with
  |some (.slice e)=>do
   let i <-P.info? e
   if 0<i.size then some (.Ga e i.size i.bytes (<-oL P e) (<-aL l) (<-aL c))else none
  |_=>none
 | .slice t x lo hi none=>
  match P.underlying t with
  |some (.slice e)=>do
   let i <-P.info? e
   some (.B9 i.size (<-aL x) (<-lo.mapM aL) (<-hi.mapM aL))
  |some .string=>
   match lo,hi with
   |none,none=>none
   |some l,none=>do some (.lz (.iY true false) [<-aL x,<-aL l])
   |none,some h=>do some (.lz (.iY false true) [<-aL x,<-aL h])
   |some l,some h=>do some (.lz (.iY true true) [<-aL x,<-aL l,<-aL h])
  |_=>none
 | .call {callee:= .value f,args,..}=>do
  let xs <-args.toList.mapM aL
  match f with
  | .func f=>some (.call f xs)
  |_=>some (.jS (<-aL f) xs)
 | .call {callee:= .builtin b,args,argTypes}=>
  match b,args.toList,argTypes.toList with
  | .len,[x],[t]=>
   match P.underlying t with
   |some .string=>do some (.len true (<-aL x))
   |some (.slice _)=>do some (.len false (<-aL x))
   |_=>none
  | .append,[s,x],[t,r]=>
   match P.underlying t with
   |some (.slice e)=>do
    let i <-P.info? e
    let z <-i.zero
    if t=r/\z.cells.size=i.size/\0<i.size then some (.bm (Pg hs o) e i.size i.bytes (<-aL s) (<-aL x))else none
   |_=>none
  | .clear,[x],[t]=>
   match P.underlying t with
   |some (.slice e)=>do
    let i <-P.info? e
    some (.clear i.size (<-oL P e) (<-aL x))
   |_=>none
  | .min,[x,y],_=>do some (.rX false (<-aL x) (<-aL y))
  | .max,[x,y],_=>do some (.rX true (<-aL x) (<-aL y))
  |_,_,_=>none
 | .field t x i=>
  match P.underlying t with
  |some (.struct fs)=>
   match fs[i]? with
   |some f=>do some (.Iu (<-nq P f.type) f.offset (<-aL x))
   |none=>none
  |_=>none
 | .makeInterface t x=>if P.concrete t=true then do some (.lz (.Nr t) [<-aL x])else none
 | .typeAssert x _ t true=>
  match P.underlying t,P.info? t with
  |some (.interface _),_=>none
  |some _,some i=>do some (.lz (.KN t (<-qU (<-i.zero))) [<-aL x])
  |_,_=>none
 | .unOp .neg _ x=>do some (.lz .neg [<-aL x])
 | .makeMap _ none=>some (.lz .PA [])
 | .mapUpdate ..| .insert ..=>some (.lz .bad [])
 |_=>none
end
section
open Go.RowKit
def Mc(recv:Bool)(rb:Nat)(X:Nat->Prop)(b:Nat):Prop:=(recv=true/\b=rb)\/X b
def Enters(P:Pr)(f:FI):Prop:=∃fn,P.funcs[f]?=some fn/\fn.body.isSome=true/\(fn.name== "runtime.NumGoroutine")=false
def qh(recv:Bool)(rb:Nat):Z Va:=if recv then[.pointer (some ⟨rb,0,none⟩)]else[]
def Ls(recv:Bool)(rb:Nat)(X:Nat->Prop)(w:Wo)(r:PV)(cs':Z PV)(e:Ending)(w':Wo):Prop:=
 ∃(v:Va) (b:Z Va),e= .returned v/\aJ w' (Mc recv rb X) cr r v/\(recv=true->(∃T,w'.heap[rb]?=some (.cells b.toArray T (0,0)))/\aK w' (Mc recv rb X) cr cs' b)/\
  Fr (if recv then some rb else none) w w'
def DH(P:Pr)(f:FI)(pos:Nat)(recv:Bool)(cs c:Z PV)(r:PV)(cs':Z PV):Prop:=
 ∀(w:Wo) (X:Nat->Prop) (_:mU w X) (rb:Nat) (T:TI) (b vs:Z Va),
  (recv=true->w.heap[rb]?=some (.cells b.toArray T (0,0))/\aK w (Mc recv rb X) cr cs b/\¬gb rb)->aK w (Mc recv rb X) cr c vs->
  Calls P f (gP pos (qh recv rb) vs).toArray w (Ls recv rb X w r cs')
abbrev ED(P:Pr)(f:FI):=DH P f 0
def Iq{α:Type}(p:Nat)(l:Z α):gP p [] l=l:=by simp[gP]
def MW(P:Pr)(f:FI)(d cs:Z PV):Prop:=
 ∀(w:Wo) (X:Nat->Prop) (_:mU w X) (vs:Z Va),aK w X cr d vs->
  Calls P f vs.toArray w λe w'=>∃(b:Nat) (c:Z Va) (T:TI),e= .returned (.pointer (some ⟨b,0,none⟩))/\w.heap.size<=b/\w'.heap[b]?=some (.cells c.toArray T (0,0))/\aK w' (λq=>X q\/q=b) cr cs c/\Fr none w w'
def sB(w:Wo)(M:Nat->Prop)(e k:Nat)(v:Va)(es:Z (Z PV)):Prop:=
 ∃(vs:Z Va),w.ownsRow 0 e k v es.length vs/\(∀x∈es,x.length=k)/\aK w M cr es.flatten vs
def Mv(v:Va)(X:Nat->Prop)(b:Nat):Prop:=br v=some b\/X b
def MV(P:Pr)(f:FI)(e k:Nat)(es:Z (Z PV))(c:Z PV)(r:PV)(d:Z (Z PV)):Prop:=
 ∀(w:Wo) (X:Nat->Prop) (_:mU w X) (v:Va) (vs:Z Va),(∀b,br v=some b->¬X b/\¬gb b)->sB w (Mv v X) e k v es->aK w (Mv v X) cr c vs->
  Calls P f (v::vs).toArray w λg w'=>∃u,g= .returned u/\aJ w' (Mv v X) cr r u/\sB w' (Mv v X) e k v d/\Fr (br v) w w'
def FD(P:Pr)(f:FI)(e k:Nat)(es:Z (Z PV))(c:Z PV)(d:Z (Z PV)):Prop:=
 ∀(w:Wo) (X:Nat->Prop) (_:mU w X) (v:Va) (vs:Z Va),(∀b,br v=some b->¬X b/\¬gb b)->sB w (Mv v X) e k v es->aK w (Mv v X) cr c vs->
  Calls P f (v::vs).toArray w λg w'=>∃u,g= .returned u/\sB w' (Mv u X) e k u d/\(∀b,br u=some b->br v=some b\/w.heap.size<=b)/\Fr (br v) w w'
def Kr(P:Pr)(f:FI)(c:Z PV)(e k:Nat)(d:Z (Z PV)):Prop:=
 ∀(w:Wo) (X:Nat->Prop) (_:mU w X) (vs:Z Va),aK w X cr c vs->
  Calls P f vs.toArray w λg w'=>∃u,g= .returned u/\sB w' (Mv u X) e k u d/\(∀b,br u=some b->w.heap.size<=b)/\Fr none w w'
structure Xw (b c:Nat) (w0 w:World):Prop where
 os:w.os=w0.os
 tape:w.tape=w0.tape
 output:w.output=w0.output
 size:w0.heap.size<=w.heap.size
 block:∀k,k<w0.heap.size->k≠b->k≠c->w.heap[k]?=w0.heap[k]?
 drawn:DL w0 w
def BA(P:Pr)(f:FI)(m:Model):Prop:=
 match m.rk with
 | .no=>True
 | .NL e k=>∀es b r c,m.rm es b=some (r,c)->MV P f e k es b r c
 | .GP e k=>∀es b r c,m.rm es b=some (r,c)->FD P f e k es b c
 | .Th e k=>∀b r c,m.rm [] b=some (r,c)->Kr P f b e k c
def NO(P:Pr)(f:FI)(m:Model):Prop:=
 Enters P f/\(m.fresh=false->∀cs b r cs',m.m cs b=some (r,cs')->DH P f m.pos m.recv cs b r cs')/\(m.fresh=true->∀b r cs,m.m [] b=some (r,cs)->MW P f b cs)/\BA P f m/\(m.ro=true->∀cs b r cs',m.m cs b=some (r,cs')->cs'=cs)
def fe(P:Pr)(Γ:gL):Prop:=∀f m,Γ f=some m->NO P f m
section
variable{P:Pr}{E:En}{S:St}{a:Act}{w:Wo}{L:Nat->Va}
def uk{M:Nat->Prop}{G:Gh}{v:Va}{x:PV}(h:qU v=some x):aJ w M G x v:=by unfold qU at h;split at h<;>first|(injection h with h;subst h;first|exact .bool _|exact .int _ _|exact .str _|exact .fD|exact .cz|exact .qq|exact .any _)|cases h
def Rel.dK(h:Rel E S a w L){x:Od}{y:aM}(b:aL x=some y):aJ w (aH E S L) (S.gh L) (y.val S) (a.eval x):=by
 cases x with
 |tmp t=>simp[aL,Qb]at b;subst b;exact h.env t
 |const v=>simp[aL,Qi]at b;obtain⟨p,d,rfl⟩:=b;exact uk d
 |global g=>simp[aL]at b
 |func f=>simp[aL,Qb]at b;subst b;exact .aQ f [] [] rfl (λi x v c _=>by simp at c)
def Rel.cy(h:Rel E S a w L):∀{xs:Z Od} {c:Z aM},xs.mapM aL=some c->aK w (aH E S L) (S.gh L) (c.map (·.val S)) (xs.map a.eval)
 |[],c,b=>by simp at b;subst b;exact .nil
 |x::xs,c,b=>by simp[QE,Qh,Qd,QN,Qb]at b;obtain⟨y,e,f,d,rfl⟩:=b;exact .cons (h.dK e) (h.cy d)
section
variable{M:Nat->Prop}{G:Gh}{v:Va}
def aJ.fp{b:Bool}(h:aJ w M G (.bool b) v):v= .bool b:=by cases h;rfl
def aJ.c4{k:IntKind}{n:Int}(h:aJ w M G (.int k n) v):v= .int k n:=by cases h;rfl
def aJ.ky{s:C}(h:aJ w M G (.str s) v):v= .string s:=by cases h;rfl
def aJ.mA(h:aJ w M G .cz v):v= .slice none 0 0:=by cases h;rfl
def aJ.Ju(h:aJ w M G (.jd true) v):v= .nilIface:=by cases h;rfl
def aJ.OD(h:aJ w M G (.jd false) v):∃T u,v= .iface T u:=by cases h;exact⟨_,_,rfl⟩
def aJ.Lc{T:TI}{x:PV}(h:aJ w M G (.fF T x) v):∃u,v= .iface T u/\x.plain=true/\aJ w M cr x u:=by cases h with|fF _ _ u b h=>exact⟨u,rfl,b,h⟩
def aJ.plain{w':Wo}{M M':Nat->Prop}{G G':Gh}{y:PV}{v:Va}(d:y.plain=true)(h:aJ w M G y v):aJ w' M' G' y v:=by
 induction h generalizing G' with
 |fF T x v b _ c=>exact .fF T x v b (c b)
 |_=>first|(simp[PV.plain]at d;done)|constructor
def aJ.M1(h:aJ w M G .undef v):v=Go.undef:=by cases h;rfl
def aJ.zI{cs:Z PV}(h:aJ w M G (.bP cs) v):∃vs:Z Va,v= .tuple vs.toArray/\aK w M G cs vs:=by cases h with|bP _ vs b h=>exact⟨vs,rfl,b,h⟩
def aJ.lU{cs:Z PV}(h:aJ w M G (.agg cs) v):∃vs:Z Va,v= .agg vs.toArray/\aK w M G cs vs:=by cases h with|agg _ vs b h=>exact⟨vs,rfl,b,h⟩
def aJ.HO{f:FI}{cs:Z PV}(h:aJ w M G (.ff f cs) v):∃vs:Z Va,v= .func (.func f) vs.toArray #[]/\aK w M G cs vs:=by cases h with|ff _ _ vs b h=>exact⟨vs,rfl,b,h⟩
def aJ.oX{f:FI}{cs:Z PV}(h:aJ w M G (.aQ f cs) v):∃vs:Z Va,v= .func (.func f) #[] vs.toArray/\aK w M G cs vs:=by cases h with|aQ _ _ vs b h=>exact⟨vs,rfl,b,h⟩
def aJ.Dr{cs:Z PV}(h:aJ w M G (.ref cs) v):∃(ad:Addr) (vs:Z Va),v= .pointer (some ad)/\aK w M cr cs vs/\∀(i:Nat) (u:Va),vs[i]?=some u->w.cell? (ad.add i)=some u/\¬M ad.block:=by cases h with|ref _ ad vs b c h=>exact⟨ad,vs,rfl,⟨b,h⟩,c⟩
def aJ.lL{id ab c:Nat}(h:aJ w M G (.ptr id ab c) v)(d:G.V id=ab):id<G.N/\v= .pointer ((br (G.L id)).map λb=>⟨b,c,none⟩):=by cases h with|ptr _ _ _ ad e f h=>exact⟨e,by rw[h d.symm]⟩
def aJ.Fm{id ab k i c:Nat}(h:aJ w M G (.ct id ab k i c) v)(d:G.V id=ab):id<G.N/\v= .pointer ((br (G.L id)).map λb=>⟨b,i*k+c,none⟩):=by cases h with|ct _ _ _ _ _ ad e f h=>exact⟨e,by rw[h d.symm]⟩
def aJ.tt{id ab k lo n:Nat}(h:aJ w M G (.view id ab k lo n) v)(b:G.V id=ab):id<G.N/\∃a c,v= .slice a n c/\Km (G.L id) k lo n a c:=by cases h with|view _ _ _ _ _ ad c d e h=>exact⟨d,ad,c,rfl,h b.symm⟩
def aJ.iA{id ab:Nat}(h:aJ w M G (.own id ab) v)(b:G.V id=ab):id<G.N/\v=G.L id:=by cases h with|own _ _ ad n c d e h=>exact⟨d,h b.symm⟩
def aJ.xd{es:Z (Z PV)}(h:aJ w M G (.sl es) v):(v= .slice none 0 0/\es=[])\/∃(ad:Addr) (c k:Nat) (vs:Z Va),v= .slice (some ad) es.length c/\(∀e∈es,e.length=k)/\aK w M cr es.flatten vs/\
  (∀(i:Nat) (u:Va),vs[i]?=some u->w.cell? (ad.add i)=some u/\¬M ad.block)/\es.length<=c/\c<=maxLen:=by
 cases h with
 |sl _ ad c k vs hk d f h b hm=>exact .inr ⟨ad,c,k,vs,rfl,hk,⟨d,h⟩,f,b,hm⟩
 |slnil=>exact .inl ⟨rfl,rfl⟩
end
def St.dh(S:St)(wr:Y (Nat×dq)):St:={S with H:=match wr with|some (id,o)=>bd S.H id o|none=>S.H}
def Good(P:Pr)(E:En)(S:St)(a:Act)(w:Wo)(o:Oper)(x:PV)(wr:Y (Nat×dq)):Prop:=
 ∃b w' c v,(execOp a.eval o).run P w= .ok b w'/\(b= .value v\/(b= .skip/\v=undef))/\aJ w' (aH E (S.dh wr) c) ((S.dh wr).gh c) x v/\Rel E (S.dh wr) a w' c
def Good.pure{o:Oper}{x:PV}{v:Va}(h:Rel E S a w L)(c:(execOp a.eval o).run P w= .ok (.value v) w)(b:aJ w (aH E S L) (S.gh L) x v):Good P E S a w o x none:=
 ⟨_,w,L,v,c,.inl rfl,b,h⟩
def Rel.Mj(h:Rel E S a w L){d:Y Nat}{x:PV}{v:Va}(c:∀t,d=some t->E.can t)(b:aJ w (aH E S L) (S.gh L) x v):Rel E (S.bm d x none) (a.put d v) w L:=by
 cases d with
 |none=>exact h
 |some t=>exact h.put (c t rfl) b
def DF(o:Oper):Prop:=∀c,o.op≠ .defer c
def Good.wp{o:Oper}{x:PV}{wr:Y (Nat×dq)}(h:Good P E S a w o x wr)(b:DF o)(g:∀t,o.dst=some t->E.can t){K:Act->Wo->Prop}{Q:Exit->Act->Wo->Prop}
  (i:∀a' w' c,Rel E (S.bm o.dst x wr) a' w' c->K a' w'):o.wpIn (WF E.rd) 0 P a w K Q:=by
 let⟨k,w',c,v,e,f,d,j⟩:=h
 have:=i _ _ _ (show Rel E (S.bm o.dst x wr) (a.put o.dst v) w' c from j.Mj g d)
 unfold Oper.wpIn;rw[qaA _ _ _ b,e];rcases f with rfl|⟨rfl,rfl⟩<;>exact⟨λ_ _=>trivial,this⟩
def KG{t:TI}{ad:Addr}{v:Va}(b:nq P t=some none)(h:w.cell? ad=some v):(loadVar t ad).run P w= .ok v w:=by
 unfold nq at b;split at b
 .simp at b
 .simp at b
 .rename_i d _ e c
  have:(isAgg t).run P w= .ok false w:=by unfold isAgg;rw[Qu,Qo c w];cases d<;>simp_all
  simp[loadVar,Qu,this,QI];simp[load,Sem.run,h]
 .cases b
def KH{t:TI}{ad:Addr}{n:Nat}{vs:Z Va}(b:nq P t=some (some n))(e:vs.length=n)(h:∀(i:Nat) (v:Va),vs[i]?=some v->w.cell? (ad.add i)=some v):
  (loadVar t ad).run P w= .ok (.agg vs.toArray) w:=by
 have hi:∃i,P.info? t=some i/\i.size=n:=by
  unfold nq at b;split at b
  .simpa using b
  .simpa using b
  .simp at b
  .cases b
 let⟨i,hi,hs⟩:=hi
 have:(isAgg t).run P w= .ok true w:=by
  unfold nq at b;unfold isAgg;split at b
  .rename_i d;rw[Qu,Qo d w];simp
  .rename_i d;rw[Qu,Qo d w];simp
  .simp at b
  .cases b
 have c:=run_loadCells_list (P:=P) w ad vs h;rw[e]at c;simp[loadVar,Qu,this,QI,sizeOf,typeInfo];simp[program,Sem.run,hi,hs,c]
def Du{M:Nat->Prop}{G:Gh}{t:TI}{n:Y Nat}{ad:Addr}{cs:Z PV}{vs:Z Va}{x:PV}(d:nq P t=some n)(c:aK w M G cs vs)
  (e:∀(i:Nat) (v:Va),vs[i]?=some v->w.cell? (ad.add i)=some v) (b:nH n cs=some x):∃v,(loadVar t ad).run P w= .ok v w/\aJ w M G x v:=by
 cases n with
 |none=>
  cases cs with
  |nil=>simp[nH]at b
  |cons y f=>simp[nH,Qb]at b;subst b;obtain⟨v,us,rfl,h1,_⟩:=c.cons_inv;exact⟨v,KG d (by simpa[Addr.add]using e 0 v t_),h1⟩
 |some n=>
  simp only[nH]at b;split at b
  .injection b with b
   subst b;rename_i h;refine⟨.agg (vs.take n).toArray,KH d (by simp[c.1];omega) (λi v g=> ?_),?_⟩
   .grind
   .have:=c.take n;exact .agg _ _ this.1 this.2
  .cases b
def Rel.mT(h:Rel E S a w L){id:Nat}{cs:Z PV}(d:id<S.N)(e:(S.H id).c= .box cs):
  ∃(b:Nat) (c:Array Va) (T:TI),L id= .pointer (some ⟨b,0,none⟩)/\w.heap[b]?=some (.cells c T (0,0))/\aK w (aH E S L) (S.gh L) cs c.toList/\(E.rb=some b\/E.w0.heap.size<=b):=by
 have:=h.obj id d;rw[e]at this
 let⟨b,c,T,h1,i,g,f⟩:=this
 exact⟨b,c,T,h1,i,f,g⟩
theorem kS{b:Nat}{c:Array Va}{T:TI}(h:w.heap[b]?=some (.cells c T (0,0))){i:Nat}{v:Va}(d:c.toList[i]?=some v):w.cell? ⟨b,i,none⟩=some v:=by simp[World.cell?,h];simpa using d
def Rel.fZ(h:Rel E S a w L){id:Nat}{e k:Nat}{es:Z (Z PV)}(b:id<S.N)(c:(S.H id).c= .row e k es):
  ∃(vs:Z Va),w.ownsRow (dW E (L id)) e k (L id) es.length vs/\(∀x∈es,x.length=k)/\aK w (aH E S L) (S.gh L) es.flatten vs:=by
 have:=h.obj id b;rw[c]at this;exact this
theorem sv{α:Type}:∀(es:Z (Z α)) (k i:Nat) (e:Z α),(∀x∈es,x.length=k)->es[i]?=some e->∀j,j<k->es.flatten[i*k+j]?=e[j]?
 |[],_,_,_,_,h,_,_=>by simp at h
 |x::xs,k,i,e,hk,h,j,c=>by
  have d:x.length=k:=hk x t_
  cases i with
  |zero=>simp at h;subst h;simp[List.flatten_cons,Nat.zero_mul,qam];rw[List.getElem?_append_left O]
  |succ i=>
   simp[List.getElem?_cons_succ]at h;have:=sv xs k i e (λy b=>hk y (by simp[b])) h j c
   simp[List.flatten_cons];have f:(i+1)*k=i*k+k:=by rw[QM];omega
   rw[List.getElem?_append_right O,<-this];congr 1;omega
theorem ib{α:Type}(es:Z (Z α))(k:Nat)(c:∀x∈es,x.length=k):es.flatten.length=es.length*k:=by
 induction es with
 |nil=>simp
 |cons x xs b=>grind
end
end
section
open Go.RowKit
section
variable{P:Pr}{E:En}{S:St}{a:Act}{w:Wo}{L:Nat->Va}{o:Oper}{x:PV}{wr:Y (Nat×dq)}{Γ:gL}{nid:Nat}
theorem bh{p q:PV×Y (Nat×dq)}(h:some p=some q):p.1=q.1/\p.2=q.2:=by cases h;exact⟨rfl,rfl⟩
def PG(h:Rel E S a w L){y:Od}{c:aM}(b:o.op= .move y\/o.op= .assign y)(d:aL y=some c):Good P E S a w o (c.val S) none:=by refine Good.pure h ?_ (h.dK d);rcases b with b|b<;>simp[execOp,b]
def S7(h:Rel E S a w L){c y z:Od}{j g f:aM}(i:o.op= .pick c y z)(m:aL c=some j)(l:aL y=some g)(k:aL z=some f)
  (b:exec Γ nid S (.pick j g f)=some (x,wr)):Good P E S a w o x wr:=by
 have rc:=h.dK m;simp[exec]at b;split at b
 .rename_i e;obtain⟨rfl,rfl⟩:=bh b;rw[e]at rc;have d:=rc.fp;exact Good.pure (v:=a.eval y) h (by simp[execOp,i,asBool,d]) (h.dK l)
 .rename_i e;obtain⟨rfl,rfl⟩:=bh b;rw[e]at rc;have d:=rc.fp;exact Good.pure (v:=a.eval z) h (by simp[execOp,i,asBool,d]) (h.dK k)
 .cases b
def US(h:Rel E S a w L){y:Od}{d:aM}{t:TI}(i:o.op= .unOp .not t y)(f:aL y=some d)(c:exec Γ nid S (.not d)=some (x,wr)):Good P E S a w o x wr:=by
 have r:=h.dK f;simp[exec]at c;split at c
 .rename_i b e;obtain⟨rfl,rfl⟩:=bh c;rw[e]at r;have g:=r.fp;exact Good.pure (v:= .bool !b) h (by simp[execOp,i,Op.unary,g]) (.bool _)
 .cases c
def Tb(h:Rel E S a w L){y:Od}{c:aM}{s t:TI}{k d:IntKind}(j:o.op= .convert s t y)(hs:P.underlying s=some (.int d))(i:P.underlying t=some (.int k))(f:aL y=some c)
  (b:exec Γ nid S (.conv k c)=some (x,wr)):Good P E S a w o x wr:=by
 have r:=h.dK f;simp[exec]at b;split at b
 .rename_i l n e;obtain⟨rfl,rfl⟩:=bh b;rw[e]at r;have g:=r.c4;exact Good.pure (v:= .int k (k.wrap n)) h (by simp[execOp,j,convert,Qo hs,Qo i,Conv.intToInt,g]) (.int _ _)
 .cases b
def Ta(h:Rel E S a w L){y:Od}{c:aM}{i:Nat}(l:o.op= .extract y i)(f:aL y=some c)(b:exec Γ nid S (.sx i c)=some (x,wr)):Good P E S a w o x wr:=by
 have r:=h.dK f;simp[exec]at b;split at b
 .rename_i cs e;simp only[Qi]at b;obtain⟨z,d,b⟩:=b;injection b with h1 m
  subst h1 m;rw[e]at r
  let⟨vs,j,k⟩:=r.zI
  let⟨u,hu,g⟩:=k.get d
  exact Good.pure (v:=u) h (by simp[execOp,l,Instr.extract,j,hu]) g
 .cases b
def UY(h:Rel E S a w L){f:FI}{first b:Array Od}{cs:Z aM}(d:o.op= .makeFunc (.func f) first b)(j:first.size=0)(g:b.toList.mapM aL=some cs)
  (c:exec Γ nid S (.Ik f cs)=some (x,wr)):Good P E S a w o x wr:=by
 simp only[exec]at c;obtain⟨rfl,rfl⟩:=bh c;have r:=h.cy g;have i:first=#[]:=qa7 j
 subst i;refine Good.pure (v:= .func (.func f) #[] (b.toList.map a.eval).toArray) h ?_ (.aQ f _ _ r.1 r.2);have e:b.map a.eval=(b.toList.map a.eval).toArray:=by rw[<-qaJ,QX]
 simp[execOp,d,Instr.makeFunc,e]
def UZ(h:Rel E S a w L){f:FI}{first b:Array Od}{cs:Z aM}(d:o.op= .makeFunc (.func f) first b)(j:b.size=0)(g:first.toList.mapM aL=some cs)
  (c:exec Γ nid S (.Il f cs)=some (x,wr)):Good P E S a w o x wr:=by
 simp only[exec]at c;obtain⟨rfl,rfl⟩:=bh c;have r:=h.cy g;have i:b=#[]:=qa7 j;subst i;refine Good.pure (v:= .func (.func f) (first.toList.map a.eval).toArray #[]) h ?_ (.ff f _ _ r.1 r.2)
 have e:first.map a.eval=(first.toList.map a.eval).toArray:=by rw[<-qaJ,QX]
 simp[execOp,d,Instr.makeFunc,e]
def toList_eq_iff(a b:C):(a.toList==b.toList)=decide (a=b):=by
 have d:∀c:C,c.toList=c.data.toList:=λc=>Lib.toList_data c
 rw[d,d,Bool.eq_iff_iff];simp only[beq_iff_eq,QB];constructor
 .intro h;have:a.data=b.data:=Array.toList_inj.1 h;cases a;cases b;simp_all
 .rintro rfl;rfl
def Ly{M:Nat->Prop}{G:Gh}{op:BinOp}{t:TI}{k:IntKind}{p q:Int}{r:PV}(b:C9 op k p q=some r)(d:op≠ .shl)(c:op≠ .shr):
  ∃v,(binOp op t (.int k p) (.int k q)).run P w= .ok v w/\aJ w M G r v:=by
 cases op<;>simp only[C9]at b
 case shl=>exact absurd rfl d
 case shr=>exact absurd rfl c
 case quo=>
  split at b
  .cases b
  .rename_i e;cases b;exact⟨.int k (k.wrap (p.tdiv q)),by simp[binOp,Op.intDiv,e],.int _ _⟩
 case rem=>
  split at b
  .cases b
  .rename_i e;cases b;exact⟨.int k (p.tmod q),by simp[binOp,Op.intDiv,e],.int _ _⟩
 case andNot=>cases b;exact⟨.int k (k.wrap ((BitVec.ofInt k.bits p&&& ~~~ BitVec.ofInt k.bits q).toNat)),by simp[binOp,ne_eq,qaK,QF,Op.intBits,QP],.int _ _⟩
 case and=>injection b with b;subst b;exact⟨_,by simp only[binOp,ne_eq,qaK,QF,Op.intBits];rfl,.int _ _⟩
 case or=>injection b with b;subst b;exact⟨_,by simp only[binOp,ne_eq,qaK,QF,Op.intBits];rfl,.int _ _⟩
 case xor=>injection b with b;subst b;exact⟨_,by simp only[binOp,ne_eq,qaK,QF,Op.intBits];rfl,.int _ _⟩
 all_goals (injection b with b;subst b)
 all_goals exact⟨_,by simp[binOp,ne_eq,qaK,QF,Op.intArith,Op.intCmp];rfl,by first|exact .int _ _|exact .bool _⟩
def PK(h:Rel E S a w L){y z:Od}{D B:aM}{op:BinOp}{t t2:TI}(g:o.op= .binOp op t y z t2)(I:aL y=some D)(H:aL z=some B)
  (l:exec Γ nid S (.bin op D B)=some (x,wr)):Good P E S a w o x wr:=by
 have j:=h.dK I;have i:=h.dK H;simp only[exec,Qi]at l;obtain⟨r,b,l⟩:=l;injection l with h1 N
 subst h1 N;unfold DD at b;split at b
 .rename_i k p F q A u;rw[A]at j;rw[u]at i;have c:=j.c4;have d:=i.c4;have e:∀op,(eqGuard op t y z (.int k p) (.int F q)).run P w= .ok () w:=by intro op;cases op<;>simp[eqGuard]
  split at b
  .split at b
   .cases b
   .rename_i s;injection b with b
    subst b;exact Good.pure (v:=_) h (by simp[execOp,g,c,d,e,binOp,Op.shift,s]) (.int _ _)
  .split at b
   .cases b
   .rename_i s;injection b with b
    subst b;exact Good.pure (v:=_) h (by simp[execOp,g,c,d,e,binOp,Op.shift,s]) (.int _ _)
  .rename_i n m;split at b
   .rename_i K;subst K
    let⟨v,f,J⟩:=Ly (P:=P) (w:=w) (t:=t) (M:=aH E S L) (G:=S.gh L) b n m
    exact Good.pure (v:=v) h (by simp[execOp,g,c,d,e,f]) J
   .cases b
 .rename_i p q A u;rw[A]at j;rw[u]at i;have c:=j.ky;have d:=i.ky;have e:∀op,(eqGuard op t y z (.string p) (.string q)).run P w= .ok () w:=by intro op;cases op<;>simp[eqGuard]
  cases op<;>simp[GX]at b<;>
   first
   |(cases b;exact Good.pure (v:=_) h (by first|(simp[execOp,g,c,d,Qu,e,binOp,Op.stringOp,toList_eq_iff,QP,QI];done)|(simp[execOp,g,c,d,Qu,e,binOp,Op.stringOp,toList_eq_iff,QP,QI];rfl)) (.bool _))
   |cases b
 .cases b
end
end
section
open Go.RowKit
section
variable{P:Pr}{E:En}{S:St}{a:Act}{w:Wo}{L:Nat->Va}{o:Oper}{x:PV}{wr:Y (Nat×dq)}{Γ:gL}{nid:Nat}
def run_load{t:TI}{y:Od}{ad:Addr}{v:Va}(d:o.op= .load t y)(b:a.eval y= .pointer (some ad))(c:(loadVar t ad).run P w= .ok v w):(execOp a.eval o).run P w= .ok (.value v) w:=by simp[execOp,d,b,Instr.loadAt,Instr.sureAddr,c]
theorem add_mid(b o j:Nat):(⟨b,o,none⟩:Addr).add j=⟨b,o+j,none⟩:=Addr.add_mid b o j
theorem et{α:Type}{l:Z α}{n i:Nat}{v:α}(h:(l.drop n)[i]?=some v):l[n+i]?=some v:=by rwa [List.getElem?_drop]at h
def S8(h:Rel E S a w L){y:Od}{y':aM}{t:TI}{n:Y Nat}(Q:o.op= .load t y)(N:nq P t=some n)(hy:aL y=some y')(c:exec Γ nid S (.load n y')=some (x,wr)):Good P E S a w o x wr:=by
 have r:=h.dK hy;simp[exec]at c;split at c
 .rename_i id ab l e;rw[e]at r;split at c
  .rename_i m;split at c
   .rename_i cs J;simp only[Qi]at c;obtain⟨z,A,c⟩:=c;injection c with f s
    subst f s
    let⟨W,p⟩:=r.lL (show(S.gh L).V id=ab from m)
    let⟨b,X,T,K,U,H,_⟩:=h.mT W J
    rw[show(S.gh L).L id=L id from rfl,K]at p
    simp[br,Qn]at p
    let⟨v,d,B⟩:=Du (P:=P) (ad:=⟨b,l,none⟩) N (H.drop l) (λi u D=>by rw[add_mid];exact kS U (et D)) A
    exact Good.pure h (run_load Q p d) B
   .cases c
  .cases c
 .rename_i id ab k i l e;rw[e]at r;split at c
  .rename_i m;split at c
   .rename_i e0 k' es J;split at c
    .rename_i R;subst R;split at c
     .rename_i el V;simp only[Qi]at c;obtain⟨z,A,c⟩:=c;injection c with f s
      subst f s
      let⟨W,p⟩:=r.Fm (show(S.gh L).V id=ab from m)
      let⟨vs,I,R,H⟩:=h.fZ W J
      rw[show(S.gh L).L id=L id from rfl]at p
      have hlen:el.length=k:=R el (QG V)
      have F:aK w (aH E S L) (S.gh L) el ((vs.drop (i*k)).take k):=by
       have f:=(H.drop (i*k)).take k
       have s:(es.flatten.drop (i*k)).take k=el:=by
        apply List.ext_getElem?
        grind [sv]
       rw[s]at f;exact f
      rcases I.2 with⟨K,h0⟩|⟨g,cap,X,K,hb1,U,_,_,_,q⟩
      .grind
      .rw[K]at p;simp[br,Qn]at p
       let⟨v,d,B⟩:=Du (P:=P) (ad:=⟨g,i*k+l,none⟩) N (F.drop l) (λj u D=>by
        rw[add_mid];refine kS U ?_;have f:=et D;rw[qay]at f;split at f
        .rw[List.getElem?_drop,<-q,qay]at f;split at f
         .rw[<-f];congr 1;omega
         .cases f
        .cases f) A
       exact Good.pure h (run_load Q p d) B
     .cases c
    .cases c
   .cases c
  .cases c
 .rename_i cs e;rw[e]at r;simp only[Qi]at c;obtain⟨z,A,c⟩:=c;injection c with f s
  subst f s
  let⟨ad,vs,p,H,J⟩:=r.Dr
  let⟨v,d,B⟩:=Du (P:=P) (ad:=ad) N H (λi u D=>(J i u D).1) A
  exact Good.pure h (run_load Q p d) (B.mono (bO.of λ_ hm=>hm) (cr.le _))
 .cases c
theorem add_add(ad:Addr)(i j:Nat):(ad.add i).add j=ad.add (i+j):=by
 unfold Addr.add
 grind
def Jf{M:Nat->Prop}{G:Gh}{cs:Z PV}{ad:Addr}{vs:Z Va}(d:aK w M cr cs vs)(e:∀(i:Nat) (u:Va),vs[i]?=some u->w.cell? (ad.add i)=some u/\¬M ad.block)(n:Nat):
  aJ w M G (.ref (cs.drop n)) (.pointer (some (ad.add n))):=by
 have b:=d.drop n;exact .ref _ _ _ b.1 (λi u c=>by rw[add_add,C8];exact e _ u (et c)) b.2
def Hf{fd:Field}{i:TypeInfo}(hi:P.info? fd.type=some i)(b:i.size≠0)(ad:Addr):(fieldPlace ad fd).run P w= .ok (ad.add fd.offset) w:=by simp[fieldPlace,sizeOf,typeInfo,hi,b]
def Ch{s:TI}{y:Od}{f:Nat}{b:Array Field}{fd:Field}{i:TypeInfo}{ad:Addr}(d:o.op= .fieldAddr s y f)(hs:P.underlying s=some (.struct b))(e:b[f]?=some fd)
  (hi:P.info? fd.type=some i) (g:i.size≠0) (c:a.eval y= .pointer (some ad)):(execOp a.eval o).run P w= .ok (.value (.pointer (some (ad.add fd.offset)))) w:=by
 simp[execOp,d,Instr.fieldAt,Qo hs,e,c,Instr.sureAddr,Hf hi g]
def aJ.Ie{M:Nat->Prop}{G:Gh}{id ab c:Nat}{ad:Addr}(n:Nat)(h:aJ w M G (.ptr id ab c) (.pointer (some ad))):aJ w M G (.ptr id ab (c+n)) (.pointer (some (ad.add n))):=by
 cases h with
 |ptr _ _ _ _ g f h=>
  refine .ptr _ _ _ _ g f (λe=> ?_)
  have:=h e
  cases d:br (G.L id)with
  |none=>rw[d]at this;cases this
  |some b=>grind [add_mid]
def aJ.MD{M:Nat->Prop}{G:Gh}{id ab k i c:Nat}{ad:Addr}(n:Nat)(h:aJ w M G (.ct id ab k i c) (.pointer (some ad))):aJ w M G (.ct id ab k i (c+n)) (.pointer (some (ad.add n))):=by
 cases h with
 |ct _ _ _ _ _ _ g f h=>
  refine .ct _ _ _ _ _ _ g f (λe=> ?_)
  have:=h e
  cases d:br (G.L id)with
  |none=>rw[d]at this;cases this
  |some b=>grind [add_mid]
def Rel.nY(h:Rel E S a w L){id ab c:Nat}{v:Va}{cs:Z PV}(r:aJ w (aH E S L) (S.gh L) (.ptr id ab c) v)(d:(S.H id).ab=ab)(g:(S.H id).c= .box cs):
  ∃b,v= .pointer (some ⟨b,c,none⟩)/\L id= .pointer (some ⟨b,0,none⟩):=by
 let⟨i,e⟩:=r.lL (show(S.gh L).V id=ab from d)
 let⟨b,j,T,f,l,k,_⟩:=h.mT i g
 rw[show(S.gh L).L id=L id from rfl,f]at e
 exact⟨b,e,f⟩
def Rel.Ix(h:Rel E S a w L){id ab k i c:Nat}{v:Va}{s l:Nat}{es:Z (Z PV)}(r:aJ w (aH E S L) (S.gh L) (.ct id ab k i c) v)(d:(S.H id).ab=ab)(m:(S.H id).c= .row s l es)(hi:i<es.length):
  ∃b n cap,v= .pointer (some ⟨b,i*k+c,none⟩)/\L id= .slice (some ⟨b,0,none⟩) n cap:=by
 let⟨q,j⟩:=r.Fm (show(S.gh L).V id=ab from d)
 let⟨vs,e,hk,u⟩:=h.fZ q m
 rcases e.2 with⟨f,z⟩|⟨g,cap,t,f,p,y,_⟩
 .omega
 .rw[show(S.gh L).L id=L id from rfl,f]at j
  exact⟨g,_,cap,j,f⟩
def Ru(h:Rel E S a w L){s:TI}{y:Od}{z:aM}{f:Nat}{d:Array Field}{fd:Field}{i:TypeInfo}(q:o.op= .fieldAddr s y f)(hs:P.underlying s=some (.struct d))(t:d[f]?=some fd)
  (hi:P.info? fd.type=some i) (u:i.size≠0) (A:aL y=some z) (c:exec Γ nid S (.sw fd.offset z)=some (x,wr)):Good P E S a w o x wr:=by
 have r:=h.dK A;simp[exec]at c;split at c
 .rename_i id ab p e;rw[e]at r;split at c
  .rename_i g;split at c
   .rename_i cs m;obtain⟨rfl,rfl⟩:=bh c
    let⟨b,l,_⟩:=h.nY r g m
    rw[l]at r;exact Good.pure h (Ch q hs t hi u l) (r.Ie _)
   .cases c
  .cases c
 .rename_i id ab k j p e;rw[e]at r;split at c
  .rename_i g;split at c
   .rename_i m;split at c
    .rename_i D;obtain⟨rfl,rfl⟩:=bh c
     let⟨b,n,cap,l,_⟩:=h.Ix r g m D
     rw[l]at r;exact Good.pure h (Ch q hs t hi u l) (r.MD _)
    .cases c
   .cases c
  .cases c
 .rename_i cs e;rw[e]at r;obtain⟨rfl,rfl⟩:=bh c
  let⟨ad,vs,l,B,m⟩:=r.Dr
  exact Good.pure h (Ch q hs t hi u l) (Jf B m _)
 .cases c
def Rs(h:Rel E S a w L){y:Od}{p:aM}(i:o.op= .nilCheck y)(q:aL y=some p)(c:exec Γ nid S (.ug p)=some (x,wr)):Good P E S a w o x wr:=by
 have r:=h.dK q;simp[exec]at c;split at c
 .rename_i id ab m e;rw[e]at r;split at c
  .rename_i d;split at c
   .rename_i cs l;obtain⟨rfl,rfl⟩:=bh c
    let⟨b,g,_⟩:=h.nY r d l
    exact Good.pure (v:=a.eval y) h (by simp[execOp,i,g]) r
   .cases c
  .cases c
 .rename_i id ab k j m e;rw[e]at r;split at c
  .rename_i d;split at c
   .rename_i l;split at c
    .rename_i t;obtain⟨rfl,rfl⟩:=bh c
     let⟨b,n,cap,g,_⟩:=h.Ix r d l t
     exact Good.pure (v:=a.eval y) h (by simp[execOp,i,g]) r
    .cases c
   .cases c
  .cases c
 .rename_i cs e;rw[e]at r;obtain⟨rfl,rfl⟩:=bh c
  let⟨ad,vs,g,s,l⟩:=r.Dr
  exact Good.pure (v:=a.eval y) h (by simp[execOp,i,g]) r
 .rename_i f cs e;rw[e]at r;obtain⟨rfl,rfl⟩:=bh c
  let⟨vs,g,s⟩:=r.oX
  exact Good.pure (v:=a.eval y) h (by simp[execOp,i,g]) r
 .cases c
def Rel.Dm(h:Rel E S a w L){id k lo n:Nat}{ad:Y Addr}{c:Nat}{l e:Nat}{es:Z (Z PV)}(i:id<S.N)(f:(S.H id).c= .row l e es)(d:Km (L id) k lo n ad c):lo+n<=es.length:=by
 let⟨a0,m0,c0,q,h1,_⟩:=d
 let⟨vs,b,hk,p⟩:=h.fZ i f
 rcases b.2 with⟨j,r⟩|⟨g,cap,m,j,_⟩
 .grind
 .grind
def Cg{t e:TI}{y z:Od}{ad:Addr}{n c:Nat}{i:TypeInfo}{k:IntKind}{j:Int}(g:o.op= .indexAddr t y z)(f:P.underlying t=some (.slice e))(hi:P.info? e=some i)
  (d:a.eval y= .slice (some ad) n c) (b:a.eval z= .int k j) (l:0<=j) (h:j<n):(execOp a.eval o).run P w= .ok (.value (.pointer (some (ad.add (j.toNat*i.size))))) w:=by
 simp[execOp,g,Instr.indexAt,Qo f,d,b,asIntOf,sizeOf,typeInfo,hi,l,h]
def Rt(h:Rel E S a w L){t e:TI}{y z:Od}{y' z':aM}{i:TypeInfo}(R:o.op= .indexAddr t y z)(N:P.underlying t=some (.slice e))(hi:P.info? e=some i)(hy:aL y=some y')(hz:aL z=some z')
  (b:exec Γ nid S (.mE i.size y' z')=some (x,wr)):Good P E S a w o x wr:=by
 have r:=h.dK hy;have rz:=h.dK hz;simp only[exec]at b;split at b
 .rename_i kk j ej;rw[ej]at rz;have V:=rz.c4;split at b
  .rename_i es F;rw[F]at r;split at b
   .rename_i l;split at b
    .rename_i el A;split at b
     .rename_i s;obtain⟨rfl,rfl⟩:=bh b;rcases r.xd with⟨_,X⟩|⟨ad,c,k,vs,n,hk,Q,I,_,_⟩
      .subst X;simp at A
      .have U:k=i.size:=(hk el (QG A)).symm.trans s;subst U;refine Good.pure h (Cg R N hi n V l.1 l.2) ?_
       have h2:(es.flatten.drop (j.toNat*i.size)).take i.size=el:=by
        apply List.ext_getElem?
        grind [sv]
       have K:=(Q.drop (j.toNat*i.size)).take i.size;rw[h2]at K;refine .ref _ _ _ K.1 (λq u hu=> ?_) K.2
       grind [add_add,C8,et]
     .cases b
    .cases b
   .cases b
  .rename_i id ab F;rw[F]at r;split at b
   .rename_i d;split at b
    .rename_i e0 k' es I;split at b
     .rename_i l;obtain⟨rfl,rfl⟩:=bh b
      let⟨D,n⟩:=r.iA (show(S.gh L).V id=ab from d)
      let⟨vs,f,hk,Q⟩:=h.fZ D I
      rcases f.2 with⟨p,X⟩|⟨g,cap,cur,p,B,hh,_⟩
      .omega
      .rw[show(S.gh L).L id=L id from rfl,p]at n
       refine Good.pure h (Cg R N hi n V l.2.1 l.2.2) ?_;refine .ct _ _ _ _ _ _ D (qau d.symm) (λ_=> ?_)
       rw[show(S.gh L).L id=L id from rfl,p]
       simp[br,add_mid]
     .cases b
    .cases b
   .cases b
  .rename_i id ab k0 lo m F;rw[F]at r;split at b
   .rename_i d;split at b
    .rename_i e0 k' es I;split at b
     .rename_i l
      let⟨hk1,T,W,B,hb2⟩:=l
      subst T;obtain⟨rfl,rfl⟩:=bh b
      let⟨D,ad,c,n,a0,m0,c0,H,K,h2,h3,J⟩:=r.tt (show(S.gh L).V id=ab from d)
      let⟨vs,f,hk,Q⟩:=h.fZ D I
      have H:L id= .slice a0 m0 c0:=H;rcases f.2 with⟨p,X⟩|⟨g,cap,cur,p,hb1',hh,_⟩
      .omega
      .rw[p]at H;injection H with e1 e2 e3
       subst e1 e2 e3;rcases J with J|J
       .omega
       .subst J;refine Good.pure h (Cg R N hi n V W B) ?_;refine .ct _ _ _ _ _ _ D (qau d.symm) (λ_=> ?_)
        grind [br,add_mid]
     .cases b
    .cases b
   .cases b
  .cases b
 .cases b
def H3{t e:TI}{y z:Od}{ad:Addr}{n:Nat}{i:TypeInfo}{k:IntKind}{j:Int}(f:o.op= .indexAddr t y z)(d:P.underlying t=some (.array n e))(hi:P.info? e=some i)
  (c:a.eval y= .pointer (some ad)) (b:a.eval z= .int k j) (h:0<=j) (g:j<n):(execOp a.eval o).run P w= .ok (.value (.pointer (some (ad.add (j.toNat*i.size))))) w:=by
 simp[execOp,f,Instr.indexAt,Instr.sureAddr,Qo d,c,b,asIntOf,sizeOf,typeInfo,hi,h,g]
def Rx(h:Rel E S a w L){t e:TI}{n:Nat}{y z:Od}{m l:aM}{i:TypeInfo}(s:o.op= .indexAddr t y z)(q:P.underlying t=some (.array n e))(hi:P.info? e=some i)(D:aL y=some m)(B:aL z=some l)
  (c:exec Γ nid S (.uq i.size n m l)=some (x,wr)):Good P E S a w o x wr:=by
 have r:=h.dK D;have p:=h.dK B;simp[exec]at c;split at c
 .rename_i I j H;rw[H]at p;have u:=p.c4;split at c
  .rename_i g;split at c
   .rename_i id ab A e;rw[e]at r;split at c
    .rename_i d;split at c
     .rename_i cs k;obtain⟨rfl,rfl⟩:=bh c
      let⟨b,f,_⟩:=h.nY r d k
      rw[f]at r;exact Good.pure h (H3 s q hi f u g.1 g.2) (r.Ie _)
     .cases c
    .cases c
   .rename_i cs e;rw[e]at r;obtain⟨rfl,rfl⟩:=bh c
    let⟨ad,vs,f,F,k⟩:=r.Dr
    exact Good.pure h (H3 s q hi f u g.1 g.2) (Jf F k _)
   .cases c
  .cases c
 .cases c
def qR{q:PQ}{xs:Z aM}(b:exec Γ nid S (.lz q xs)=some (x,wr)):jg q (xs.map (·.val S))=some x/\wr=none:=by
 simp only[exec,Qi]at b;obtain⟨v,c,b⟩:=b;injection b with h1 d
 subst h1 d;exact⟨c,rfl⟩
def S6(h:Rel E S a w L){t t2:TI}{y z:Od}{e d:aM}(m:o.op= .binOp .add t y z t2)(l:aL y=some e)(k:aL z=some d)(n:exec Γ nid S (.lz .Cc [e,d])=some (x,wr)):Good P E S a w o x wr:=by
 have g:=h.dK l;have f:=h.dK k;obtain⟨b,rfl⟩:=qR n;simp only[Qj,QD]at b;generalize e.val S=p at g b;generalize d.val S=q at f b;unfold jg at b;split at b<;>simp only[reduceCtorEq,List.cons.injEq,qaa,qaf]at*<;>try contradiction
 rename_i j i _ s;obtain⟨rfl,rfl⟩:=s;simp only[Qi,Cc]at b;obtain⟨r,c,rfl⟩:=b;split at c
 .rename_i hs;injection c with c
  subst c;refine Good.pure h (v:= .string (j++i)) ?_ (.str _);have hi:IntKind.i64.max=9223372036854775807:=rfl;simp[execOp,m,eqGuard,binOp,g.ky,f.ky,Op.stringOp,hi];omega
 .cases c
def Nw(h:Rel E S a w L){neg:Bool}{t t2:TI}{r:Array (String×TI)}{y:Od}{i:aM}(g:o.op= .binOp (if neg then .neq else .eql) t y (.const .nilIface) t2)(n:P.underlying t=some (.interface r))(s:aL y=some i)
  (z:exec Γ nid S (.lz (.CN neg) [i])=some (x,wr)):Good P E S a w o x wr:=by
 have f:=h.dK s;obtain⟨c,rfl⟩:=qR z;simp only[Qj,QD]at c;generalize i.val S=p at f c;have q:a.eval (.const .nilIface)= .nilIface:=rfl
 have e:a.eval y= .nilIface->(execOp a.eval o).run P w= .ok (.value (.bool !neg)) w:=by
  intro k
  have j:(Op.equal t .nilIface .nilIface).run P w= .ok true w:=by show(Op.equalIn (9999+1) t _ _).run P w=_;rw[Op.equalIn];simp[Qo n]
  cases neg<;>simp only[QQ,QF,Qp]at g<;>simp[execOp,g,k,q,eqGuard,binOp,j]
 have d:∀(T:TI) (u:Va),a.eval y= .iface T u->(execOp a.eval o).run P w= .ok (.value (.bool neg)) w:=by
  intro T u k
  have j:(Op.equal t (.iface T u) .nilIface).run P w= .ok false w:=by show(Op.equalIn (9999+1) t _ _).run P w=_;rw[Op.equalIn];simp[Qo n]
  cases neg<;>simp only[QQ,QF,Qp]at g<;>simp[execOp,g,k,q,eqGuard,binOp,j]
 unfold jg at c;split at c<;>simp only[reduceCtorEq,PQ.CN.injEq,List.cons.injEq,qaa,qaf]at*<;>try contradiction
 .rename_i T u m l;subst m l;injection c with c
  subst c;obtain⟨A,hu⟩:=f.Lc;exact Good.pure h (d _ _ hu.1) (.bool _)
 .rename_i b m l;subst m l;injection c with c
  subst c
  cases b with
  |true=>rw[Bool.xor_true];exact Good.pure h (e f.Ju) (.bool _)
  |false=>obtain⟨T,u,hu⟩:=f.OD;rw[Bool.xor_false];exact Good.pure h (d _ _ hu) (.bool _)
def UT(h:Rel E S a w L){t:TI}{y:Od}{c:aM}(f:o.op= .unOp .neg t y)(e:aL y=some c)(g:exec Γ nid S (.lz .neg [c])=some (x,wr)):Good P E S a w o x wr:=by
 have d:=h.dK e;obtain⟨b,rfl⟩:=qR g;simp only[Qj,QD]at b;generalize c.val S=p at d b
 cases p with
 |int k n=>
  change some (PV.int k (k.wrap (0 - n)))=some x at b
  injection b with b
  subst b;exact Good.pure h (v:= .int k (k.wrap (0 - n))) (by simp[execOp,f,d.c4,Op.unary,Op.intArith]) (.int _ _)
 |_=>cases b
def UW(h:Rel E S a w L){t:TI}(d:o.op= .makeMap t none)(e:exec Γ nid S (.lz .PA [])=some (x,wr)):Good P E S a w o x wr:=by
 obtain⟨c,rfl⟩:=qR e
 change some PV.any=some x at c
 injection c with c
 subst c;exact⟨_,w.alloc (.map #[] 0),L,.map (some w.heap.size),by simp[execOp,d,Instr.makeMap],.inl rfl,.any _,(h.grow (w':=w.alloc (.map #[] 0)) rfl rfl rfl t_ (λb f=>Below.heap_alloc _ _ _ f)).1⟩
def UX(h:Rel E S a w L){t:TI}{y:Od}{c:aM}(i:o.op= .makeInterface t y)(g:P.concrete t=true)(f:aL y=some c)(j:exec Γ nid S (.lz (.Nr t) [c])=some (x,wr)):Good P E S a w o x wr:=by
 have e:=h.dK f;obtain⟨b,rfl⟩:=qR j;simp only[Qj,QD]at b;generalize c.val S=p at e b
 change (if(p.plain&&p.one)=true then some (PV.fF t p)else none)=some x at b
 split at b
 .rename_i d;rw[Qa]at d;injection b with b
  subst b;exact Good.pure h (by simp[execOp,i,run_makeInterface,g]) (.fF _ _ _ d.1 (e.plain d.1))
 .cases b
def UQ(h:Rel E S a w L){t t0:TI}{u:TypeDesc}{i:TypeInfo}{g:Va}{B:PV}{y:Od}{k:aM}(r:o.op= .typeAssert y t0 t true)(n:P.underlying t=some u)(d:∀I,u≠ .interface I)(hi:P.info? t=some i)(H:i.zero=some g)(e:qU g=some B)
  (J:aL y=some k) (N:exec Γ nid S (.lz (.KN t B) [k])=some (x,wr)):Good P E S a w o x wr:=by
 have l:=h.dK J;obtain⟨b,rfl⟩:=qR N;simp only[Qj,QD]at b;generalize k.val S=p at l b
 have c:∀{M:Nat->Prop} {G:Gh} {p q:PV} {F D:Va},aJ w M G p F->aJ w M G q D->aJ w M G (.bP [p,q]) (.tuple #[F,D]):=λR Q=>by have:=aK.cons R (aK.cons Q aK.nil);exact .bP _ _ this.1 this.2
 unfold jg at b;split at b<;>simp only[reduceCtorEq,PQ.KN.injEq,List.cons.injEq,qaa,qaf]at*<;>try contradiction
 .rename_i T z U V A s;obtain⟨rfl,rfl⟩:=A;subst s;obtain⟨v,f,K,m⟩:=l.Lc;injection b with b
  subst b
  by_cases j:U=t
  .rw[Qc j];refine Good.pure h (v:= .tuple #[v,.bool true]) ?_ (c (m.plain K) (.bool _));cases u<;>first|exact absurd rfl (d _)|simp[execOp,r,f,Instr.typeAssert,Qo n,j]
  .rw[Qf j];refine Good.pure h (v:= .tuple #[g,.bool false]) ?_ (c (uk e) (.bool _));cases u<;>first|exact absurd rfl (d _)|simp[execOp,r,f,Instr.typeAssert,Qo n,j,zeroValue,typeInfo,hi,H]
 .rename_i T z A s;obtain⟨rfl,rfl⟩:=A;subst s;injection b with b
  subst b;refine Good.pure h (v:= .tuple #[g,.bool false]) ?_ (c (uk e) (.bool _));cases u<;>first|exact absurd rfl (d _)|simp[execOp,r,l.Ju,Instr.typeAssert,Qo n,zeroValue,typeInfo,hi,H]
def C6:∀{es:Z (Z PV)} {l:Z UInt8},bytesOf es=some l->es=l.map λb=>[.int .u8 (b.toNat:Int)]
 |[],l,h=>by injection h with h;subst h;rfl
 |e::es,l,h=>by
  unfold bytesOf at h;split at h
  .rename_i f;cases f
  .rename_i n j f;injection f with i g
   subst i g;split at h
   .rename_i b m c d;injection h with h
    subst h;rw[Qj,<-C6 d];unfold byteOf at c;split at c
    .rename_i k;injection c with c
     subst c
     have:(((UInt8.ofNat n.toNat).toNat:Nat):Int)=n:=by rw[UInt8.toNat_ofNat',Nat.mod_eq_of_lt O];omega
     rw[this]
    .cases c
   .cases h
  .cases h
def U3(h:Rel E S a w L){f i e:TI}{y:Od}{q:aM}(z:o.op= .convert f i y)(hs:P.underlying f=some (.slice e))(H:P.underlying e=some (.int .u8))(F:P.underlying i=some .string)(K:aL y=some q)
  (D:exec Γ nid S (.lz .PT [q])=some (x,wr)):Good P E S a w o x wr:=by
 have r:=h.dK K;obtain⟨d,rfl⟩:=qR D;simp only[Qj,QD]at d;generalize q.val S=p at r d;unfold jg at d;split at d<;>simp only[reduceCtorEq,List.cons.injEq,qaa,qaf]at*<;>try contradiction
 rename_i es _ R;subst R;simp only[Qi]at d;obtain⟨l,A,rfl⟩:=d;have g:=C6 A
 have n:es.flatten=l.map λb=> .int .u8 (b.toNat:Int):=by
  rw[g];clear A g r D
  induction l with
  |nil=>rfl
  |cons b l J=>rw[Qj,List.flatten_cons,J];rfl
 rcases r.xd with⟨d,I⟩|⟨ad,c,k,vs,d,hk,u,N,_⟩
 .have t:l=[]:=by rw[g]at I;simpa using I
  subst t;refine Good.pure h (v:= .string ⟨#[]⟩) ?_ (.str _);simp only[execOp,z,d,Qu];rw[run_convert_bytes_string w f i e none 0 0 hs H F];simp[Conv.bytesToString];rfl
 .refine Good.pure h (v:= .string ⟨l.toArray⟩) ?_ (.str _);have s:es.length=l.length:=by rw[g,Qw]
  simp only[execOp,z,d,Qu,s];rw[run_convert_bytes_back w f i e ad c l hs H F λj B=> ?_]
  .rfl
  .have m:j<vs.length:=by rw[u.1,n,Qw];exact B
   have t:=(N j vs[j] (Qv m)).1;have Q:=u.2 j (.int .u8 (l[j].toNat:Int)) vs[j] (by rw[n,Qt,Qv B];rfl) (Qv m)
   rw[t,Q.c4]
def JQ(h:Rel E S a w L){t:TI}{y:Od}{i:aM}{lo hi:Y Od}{z:Z aM}(K:o.op= .slice t y lo hi none)(B:P.underlying t=some .string)(J:aL y=some i)
  (I:(∃l d,lo=some l/\hi=none/\aL l=some d/\z=[d])\/(∃l d,lo=none/\hi=some l/\aL l=some d/\z=[d])\/(∃l d m A,lo=some l/\hi=some m/\aL l=some d/\aL m=some A/\z=[d,A]))
  (N:exec Γ nid S (.lz (.iY lo.isSome hi.isSome) (i::z))=some (x,wr)):Good P E S a w o x wr:=by
 have g:=h.dK J;obtain⟨b,rfl⟩:=qR N
 have D:∀s:C,a.eval y= .string s->(execOp a.eval o).run P w=((Instr.slice t (.string s) (lo.map a.eval) (hi.map a.eval) none).run P w).andThen λv w'=> .ok (.value v) w':=by intro s hs;simp only[execOp,K,hs,Qu,Q4,run_sliceAt_string (P:=P) w t _ _ _ none B];rfl
 rcases I with⟨l,d,rfl,rfl,j,rfl⟩|⟨l,d,rfl,rfl,j,rfl⟩|⟨l,d,m,A,rfl,rfl,j,hm,rfl⟩
 .have f:=h.dK j;simp only[Qj,QD,qbm,Option.isSome_none]at b;generalize i.val S=p at g b;generalize d.val S=q at f b;unfold jg at b;split at b<;>simp only[reduceCtorEq,PQ.iY.injEq,List.cons.injEq,qaa,qaf]at*<;>try contradiction
  rename_i s k n _ u;obtain⟨rfl,rfl⟩:=u;simp only[Qi,iY]at b;obtain⟨r,c,rfl⟩:=b;split at c
  .rename_i e;injection c with c
   subst c;refine Good.pure h (v:= .string (s.extract n.toNat s.size)) ?_ (.str _);rw[D s g.ky,Qn,Q4,f.c4,run_slice_string_from_if w t s k n B,Qc ⟨e.1,e.2.1⟩];rfl
  .cases c
 .have f:=h.dK j;simp only[Qj,QD,qbm,Option.isSome_none]at b;generalize i.val S=p at g b;generalize d.val S=q at f b;unfold jg at b;split at b<;>simp only[reduceCtorEq,PQ.iY.injEq,List.cons.injEq,qaa,qaf]at*<;>try contradiction
  rename_i s k n _ u;obtain⟨rfl,rfl⟩:=u;simp only[Qi,iY]at b;obtain⟨r,c,rfl⟩:=b;split at c
  .rename_i e;injection c with c
   subst c;refine Good.pure h (v:= .string (s.extract 0 n.toNat)) ?_ (.str _);rw[D s g.ky,Qn,Q4,f.c4,run_slice_string_to_if w t s k n B,Qc ⟨e.2.1,e.2.2⟩];rfl
  .cases c
 .have f:=h.dK j;have rm:=h.dK hm;simp only[Qj,QD,qbm]at b;generalize i.val S=p at g b;generalize d.val S=q at f b;generalize A.val S=Q at rm b;unfold jg at b;split at b<;>simp only[reduceCtorEq,PQ.iY.injEq,List.cons.injEq,qaa,qaf]at*<;>try contradiction
  rename_i s k n H F _ u;obtain⟨rfl,rfl,rfl⟩:=u;simp only[Qi,iY]at b;obtain⟨r,c,rfl⟩:=b;split at c
  .rename_i e;injection c with c
   subst c;refine Good.pure h (v:= .string (s.extract n.toNat F.toNat)) ?_ (.str _);rw[D s g.ky,Qn,Qn,f.c4,rm.c4,run_slice_string w t s k H n F B e.1 e.2.1 e.2.2];rfl
  .cases c
def K2{M:Nat->Prop}{G:Gh}{t:TI}{n:Y Nat}{cs':Z PV}{vs:Z Va}{c:Nat}{x:PV}(b:nq P t=some n)(f:aK w M G cs' (vs.drop c))(e:nH n cs'=some x):∃v,(part t vs.toArray c).run P w= .ok v w/\aJ w M G x v:=by
 cases n with
 |none=>
  cases h:cs' with
  |nil=>rw[h]at e;simp[nH]at e
  |cons y r=>
   rw[h]at e f;simp[nH,Qb]at e;subst e
   let⟨v,us,k,h1,_⟩:=f.cons_inv
   refine⟨v,?_,h1⟩
   have p:vs[c]?=some v:=by
    have:(vs.drop c)[0]?=some v:=by rw[k];rfl
    simpa[List.getElem?_drop]using this
   have g:(isAgg t).run P w= .ok false w:=by
    unfold nq at b;split at b
    .simp at b
    .simp at b
    .rename_i d _ j q;unfold isAgg;rw[Qu,Qo q w];cases d<;>simp_all
    .cases b
   simp[part,g,p]
 |some m=>
  simp only[nH]at e;split at e
  .rename_i s;injection e with e
   subst e
   have hi:∃i,P.info? t=some i/\i.size=m:=by
    unfold nq at b;split at b
    .simpa using b
    .simpa using b
    .simp at b
    .cases b
   let⟨i,hi,hs⟩:=hi
   have g:(isAgg t).run P w= .ok true w:=by
    unfold nq at b;unfold isAgg;split at b
    .rename_i j;rw[Qu,Qo j w];simp
    .rename_i j;rw[Qu,Qo j w];simp
    .simp at b
    .cases b
   have l:=f.take m;refine⟨.agg ((vs.drop c).take m).toArray,?_,.agg _ _ l.1 l.2⟩;simp[part,Qu,g,QI,sizeOf,typeInfo];simp[program,Sem.run,hi,hs]
  .cases e
def Rc{M:Nat->Prop}{G:Gh}{t:TI}{n:Y Nat}{cs:Z PV}{vs:Z Va}{d:Nat}{x:PV}(D:nq P t=some n)(z:aK w M G cs vs)(A:nH n ((cs.drop d).map nz)=some x):∃v,(part t vs.toArray d).run P w= .ok v w/\aJ w M G x v:=by
 have p:aK w M G ((cs.drop d).map nz) (vs.drop d):=⟨by simp[z.1],λi y v u B=>by
  rw[Qt,Qi]at u;obtain⟨y0,m,rfl⟩:=u;have K:=(z.drop d).2 i y0 v m B
  cases K with
  |cz|slnil=>exact .slnil
  |any=>exact .any _
  |undef=>exact .undef
  |int k n=>exact .int k n
  |bool b=>exact .bool b
  |dP b=>exact .dP b
  |str s=>exact .str s
  |fD=>exact .fD
  |aQ f g us e h=>exact .aQ f g us e h
  |ff f g us e h=>exact .ff f g us e h
  |agg cs us e h=>exact .agg cs us e h
  |bP cs us e h=>exact .bP cs us e h
  |ptr id ab d a l j h=>exact .ptr id ab d a l j h
  |ref cs a us e q h=>exact .ref cs a us e q h
  |sl es a c k us hk e q h H hm=>exact .sl es a c k us hk e q h H hm
  |own id ab a n c l j h=>exact .own id ab a n c l j h
  |ct id ab k i d a l j h=>exact .ct id ab k i d a l j h
  |view id ab k lo n a c l j h=>exact .view id ab k lo n a c l j h
  |qq=>exact .qq
  |rW T v=>exact .rW T v
  |fF T x v F h=>exact .fF T x v F h
  |gl ks us b es N I r hk e h1 J=>exact .gl ks us b es N I r hk e h1 J⟩
 exact K2 D p A
def U1(h:Rel E S a w L){t:TI}{fs:Array Field}{f:Field}{n:Y Nat}{i:Nat}{y:Od}{e:aM}(q:o.op= .field t y i)(l:P.underlying t=some (.struct fs))(s:fs[i]?=some f)(r:nq P f.type=some n)(j:aL y=some e)
  (c:exec Γ nid S (.Iu n f.offset e)=some (x,wr)):Good P E S a w o x wr:=by
 have g:=h.dK j;simp[exec]at c;split at c
 .rename_i cs A;rw[A]at g
  let⟨vs,k,m⟩:=g.lU
  simp only[Qi]at c;obtain⟨b,u,c⟩:=c;injection c with h1 z
  subst h1 z
  let⟨v,p,d⟩:=K2 (w:=w) r (m.drop f.offset) u
  refine Good.pure h (v:=v) ?_ d;simp[execOp,q,Instr.field,Qo l,k,s,asAgg,p]
 .cases c
def Td(h:Rel E S a w L){t e:TI}{n:Y Nat}{len:Nat}{i:TypeInfo}{y z:Od}{k g:aM}(D:o.op= .index t y z)(u:P.underlying t=some (.array len e))(F:nq P e=some n)(hi:P.info? e=some i)(r:aL y=some k)(q:aL z=some g)
  (c:exec Γ nid S (.Db e n len i.size k g)=some (x,wr)):Good P E S a w o x wr:=by
 have m:=h.dK r;have l:=h.dK q;simp only[exec]at c;split at c
 .rename_i cs Q j N K;rw[N]at m;rw[K]at l;obtain⟨vs,s,A⟩:=m.lU;have H:=l.c4;split at c
  .rename_i p;simp only[Qi]at c;obtain⟨b,I,c⟩:=c;injection c with h1 J
   subst h1 J;obtain⟨v,B,f⟩:=Rc (w:=w) F A I;refine Good.pure h (v:=v) ?_ f;have d:(Go.sizeOf e).run P w= .ok i.size w:=by simp[sizeOf,typeInfo,program,Sem.run,hi]
   simp[execOp,D,Instr.index,Qo u,s,H,asIntOf,p.1,p.2,d,B]
  .cases c
 .cases c
def Rel.J2(h:Rel E S a w L){y:PV}{v:Va}{es:Z (Z PV)}(r:aJ w (aH E S L) (S.gh L) y v)(b:gQ S y=some es):∃(ad:Y Addr) (c:Nat),v= .slice ad es.length c:=by
 unfold gQ at b;split at b
 .cases b;exact⟨none,0,r.mA⟩
 .cases b;rcases r.xd with⟨e,p⟩|⟨ad,c,k,vs,e,_⟩
  .subst p;exact⟨none,0,e⟩
  .exact⟨_,_,e⟩
 .rename_i id ab;split at b
  .rename_i d;split at b
   .rename_i i;cases b
    let⟨l,e⟩:=r.iA (show(S.gh L).V id=ab from d)
    let⟨vs,f,hk,u⟩:=h.fZ l i
    rcases f.2 with⟨m,p⟩|⟨g,cap,s,m,_⟩
    .exact⟨none,0,by rw[e,show(S.gh L).L id=L id from rfl,m,p]⟩
    .exact⟨_,_,by rw[e,show(S.gh L).L id=L id from rfl,m]⟩
   .cases b
  .cases b
 .rename_i id ab k lo n;split at b
  .rename_i d;split at b
   .split at b
    .rename_i A t q i _;cases b
     let⟨l,ad,c,e,j⟩:=r.tt (show(S.gh L).V id=ab from d)
     have z:=h.Dm l i j
     grind
    .cases b
   .cases b
  .cases b
 .cases b
def S9(h:Rel E S a w L){y:Od}{c:aM}{t:TI}(i:o.op= .call {callee:= .builtin .len,args:=#[y],argTypes:=#[t]})(g:P.underlying t=some .string)(d:aL y=some c)
  (b:exec Γ nid S (.len true c)=some (x,wr)):Good P E S a w o x wr:=by
 have r:=h.dK d;simp[exec]at b;split at b
 .rename_i s e;rw[e]at r;obtain⟨rfl,rfl⟩:=bh b;have f:=r.ky;exact Good.pure h (by simp[execOp,i,resolve,invoke,builtin,Builtin.len_,Qo g,f,goInt]) (.int _ _)
 .cases b
def U0(h:Rel E S a w L){y:Od}{f:aM}{t e:TI}(k:o.op= .call {callee:= .builtin .len,args:=#[y],argTypes:=#[t]})(j:P.underlying t=some (.slice e))(g:aL y=some f)
  (b:exec Γ nid S (.len false f)=some (x,wr)):Good P E S a w o x wr:=by
 have r:=h.dK g;simp only[exec,Qi]at b;obtain⟨es,d,b⟩:=b;injection b with h1 l
 subst h1 l
 let⟨ad,c,i⟩:=h.J2 r d
 exact Good.pure h (by simp[execOp,k,resolve,invoke,builtin,Builtin.len_,Qo j,i,goInt]) (.int _ _)
def JR(h:Rel E S a w L){y z:Od}{d c:aM}{mx:Bool}{l:Array TI}(j:o.op= .call {callee:= .builtin (if mx then .max else .min),args:=#[y,z],argTypes:=l})(n:aL y=some d)(m:aL z=some c)
  (b:exec Γ nid S (.rX mx d c)=some (x,wr)):Good P E S a w o x wr:=by
 have f:=h.dK n;have e:=h.dK m;simp[exec]at b;split at b
 .rename_i k p u q t s;split at b
  .rename_i r;subst r;obtain⟨rfl,rfl⟩:=bh b;rw[t]at f;rw[s]at e;have g:=f.c4;have i:=e.c4;cases mx
   .exact Good.pure h (by simp[execOp,j,resolve,invoke,builtin,Builtin.min_,Builtin.min2,g,i]) (.int _ _)
   .exact Good.pure h (by simp[execOp,j,resolve,invoke,builtin,Builtin.max_,Builtin.max2,g,i]) (.int _ _)
  .cases b
 .cases b
end
end
section
open Go.RowKit
section
variable{P:Pr}{E:En}{S:St}{a:Act}{w:Wo}{L:Nat->Va}{o:Oper}{x:PV}{wr:Y (Nat×dq)}{Γ:gL}{nid:Nat}
def GJ(b:Nat):∀(vs:Z Va) (s:Nat) (cells:Array Va),b+s+vs.length<=cells.size->
  ((vs.zipIdx s).foldl (λcs (p:Va×Nat)=>cs.setIfInBounds (b+p.2) p.1) cells).toList=cells.toList.take (b+s)++vs++cells.toList.drop (b+s+vs.length)
 |[],s,cells,_=>t_
 |v::vs,s,cells,h=>by
  simp[List.zipIdx_cons,List.foldl_cons];rw[GJ b vs (s+1) _ (by simp at h ⊢;omega)]
  have:=list_seg_step cells.toList (b+s) v vs (by simp at h ⊢;omega)
  simpa[Array.toList_setIfInBounds,Nat.add_assoc]using this
def Mz(b:Nat)(vs cells:Array Va)(h:b+vs.size<=cells.size):
  (vs.zipIdx.foldl (λcs (p:Va×Nat)=>cs.setIfInBounds (b+p.2) p.1) cells).toList=cells.toList.take b++vs.toList++cells.toList.drop (b+vs.size):=by
 have:=GJ b vs.toList 0 cells (by simpa using h)
 simp only[qbn,Q0]at this;rw[<-this,<-qbo];simp
theorem aK.eL{M:Nat->Prop}{G:Gh}{cs xs:Z PV}{vs us:Z Va}(h:aK w M G cs vs)(k:aK w M G xs us)(b:Nat):
  aK w M G (eL cs b xs) (vs.take b++us++vs.drop (b+us.length)):=by
 unfold TQ.eL;rw[k.1];exact((h.take b).append k).append (h.drop _)
def DA(h:Rel E S a w L)(c:Nat->Y (Nat×Nat)):∀(d:Z (Nat×Od)) (ps:Z (Nat×Nat×aM)) (cells:Array Va) (cs cs':Z PV),pM c d=some ps->
  aK w (aH E S L) (S.gh L) cs cells.toList->lS S cs ps=some cs'->∃b,Instr.fill c cells (d.map λp=>(p.1,a.eval p.2))=some b/\aK w (aH E S L) (S.gh L) cs' b.toList
 |[],ps,cells,cs,cs',f,g,e=>by simp[pM]at f;subst f;simp[lS,Qb]at e;subst e;exact⟨cells,rfl,g⟩
 |(i,y)::rest,ps,cells,cs,cs',f,g,e=>by
  simp only[pM,QE,Qh,Qd,QN,Qb]at f;obtain⟨_,⟨⟨off,n⟩,D,t,B,rfl⟩,u,l,rfl⟩:=f;simp only[lS]at e;split at e
  .rename_i H
   let⟨h1,J,I⟩:=H
   have r:=(h.dK B).cells (λz A=>Qe.1 I z A)
   have F:(a.eval y).cells.size=n:=by have:=r.1.1;simp at this;omega
   have s:cells.size=cs.length:=by have:=g.1;simpa using this
   have q:=Mz off (a.eval y).cells cells O
   have j:aK w (aH E S L) (S.gh L) (TQ.eL cs off (t.val S).cells) ((a.eval y).cells.zipIdx.foldl (λcs (p:Va×Nat)=>cs.setIfInBounds (off+p.2) p.1) cells).toList:=by rw[q];have:=g.eL r.1 off;simpa using this
   let⟨b,m,k⟩:=DA h c rest u _ _ cs' l j e
   refine⟨b,?_,k⟩;simp only[Qj,Instr.fill,D];rw[Qf (by simp[F];omega)]
   exact m
  .cases e
theorem Gd{M:Nat->Prop}{G:Gh}:∀{vs:Z Va} {cs:Z PV},vs.mapM qU=some cs->aK w M G cs vs
 |[],cs,h=>by simp at h;subst h;exact .nil
 |v::vs,cs,h=>by simp[QE,Qh,Qd,QN,Qb]at h;obtain⟨x,c,xs,b,rfl⟩:=h;exact .cons (uk c) (Gd b)
def w9{M:Nat->Prop}{G:Gh}{t:TI}{z:Z PV}(h:oL P t=some z):∃i v,P.info? t=some i/\i.zero=some v/\v.cells.size=i.size/\aK w M G z v.cells.toList:=by grind [oL,Gd]
def Lf(h:Rel E S a w L){t:TI}{b:Array (Nat×Od)}{z:Z PV}{ps:Z (Nat×Nat×aM)}(y:o.op= .build t b)(B:oL P t=some z)
  (D:(∃d c,P.underlying t=some (.struct d)/\d.toList.mapM (λf=>(P.info? f.type).map λi=>(f.offset,i.size))=some c/\pM (λi=>c[i]?) b.toList=some ps)\/
   (∃n e i,P.underlying t=some (.array n e)/\P.info? e=some i/\pM (λj=>some (j*i.size,i.size)) b.toList=some ps))
  (l:exec Γ nid S (.build z ps)=some (x,wr)):Good P E S a w o x wr:=by
 simp only[exec,Qi]at l;obtain⟨cs,A,l⟩:=l;injection l with h1 F
 subst h1 F
 let⟨i,v,hi,s,hs,u⟩:=w9 (P:=P) (w:=w) (M:=aH E S L) (G:=S.gh L) B
 rcases D with⟨d,c,hu,m,q⟩|⟨n,e,H,hu,p,q⟩
 .let⟨cells,k,g⟩:=DA h _ _ _ _ _ _ q u A
  refine Good.pure (v:= .agg cells) h ?_ (by have:=g;exact(show(cells:Array Va)=cells.toList.toArray by simp)▸ .agg cs cells.toList this.1 this.2)
  have r:P.built t (b.map λ(i,x)=>(i,a.eval x)).toList=some cells:=by simp[Program.built,hi,hu,s,m];simpa using k
  simp[execOp,y,Qu,run_build w t _ cells r,QI,QP]
 .let⟨cells,k,g⟩:=DA h _ _ _ _ _ _ q u A
  refine Good.pure (v:= .agg cells) h ?_ (by have:=g;exact(show(cells:Array Va)=cells.toList.toArray by simp)▸ .agg cs cells.toList this.1 this.2)
  have r:P.built t (b.map λ(i,x)=>(i,a.eval x)).toList=some cells:=by simp[Program.built,hi,hu,s,p];simpa using k
  simp[execOp,y,Qu,run_build w t _ cells r,QI,QP]
end
end
section
open Go.RowKit
section
variable{P:Pr}{E:En}{S:St}{a:Act}{w:Wo}{L:Nat->Va}{o:Oper}{x:PV}{wr:Y (Nat×dq)}{Γ:gL}{nid:Nat}
def Rel.Nq(h:Rel E S a w L)(f:nid<S.N){cs:Z PV}{c:Array Va}(T:TI)(i:aK w (aH E S L) (S.gh L) cs c.toList):
  ∃e,Rel E (S.dh (some (nid,⟨(S.H nid).ab+1,.box cs⟩))) a (w.alloc (.cells c T)) e/\
   aJ (w.alloc (.cells c T)) (aH E (S.dh (some (nid,⟨(S.H nid).ab+1,.box cs⟩))) e) ((S.dh (some (nid,⟨(S.H nid).ab+1,.box cs⟩))).gh e) (.ptr nid ((S.H nid).ab+1) 0) (.pointer (some ⟨w.heap.size,0,none⟩)):=by
 let⟨h1,hs,g⟩:=h.nW (w':=w.alloc (.cells c T)) f ⟨(S.H nid).ab+1,.box cs⟩ (.pointer (some ⟨w.heap.size,0,none⟩)) (.inr (Q7 _)) rfl rfl rfl t_
  (λb d _=>Below.heap_alloc _ _ _ d) (λb _ d=> .inr (by simp[br,Qb]at d;omega))
  (λhs g=>⟨w.heap.size,c,T,rfl,qa8 w _,.inr h.fr.size,i.mono hs g⟩)
 refine⟨_,h1,?_⟩;refine .ptr _ _ _ _ f ?_ (λ_=> ?_)
 .simp[St.gh,St.dh,bf]
 .simp[St.gh,St.dh,bf,br]
def Rel.K5(h:Rel E S a w L)(m:nid<S.N){e k c:Nat}{es:Z (Z PV)}{d:Array Va}(n:∀u∈es,u.length=k)(f:es.length<=c)(q:c<=maxLen)(g:d.toList.length=c*k)(l:aK w (aH E S L) (S.gh L) es.flatten (d.toList.take (es.length*k))):
  ∃j,Rel E (S.dh (some (nid,⟨(S.H nid).ab+1,.row e k es⟩))) a (w.alloc (.cells d e)) j/\
   aJ (w.alloc (.cells d e)) (aH E (S.dh (some (nid,⟨(S.H nid).ab+1,.row e k es⟩))) j) ((S.dh (some (nid,⟨(S.H nid).ab+1,.row e k es⟩))).gh j) (.own nid ((S.H nid).ab+1)) (.slice (some ⟨w.heap.size,0,none⟩) es.length c):=by
 have r:(d.toList.take (es.length*k)).length=es.length*k:=by rw[l.1,ib es k n]
 let⟨h1,hs,p⟩:=h.nW (w':=w.alloc (.cells d e)) m ⟨(S.H nid).ab+1,.row e k es⟩ (.slice (some ⟨w.heap.size,0,none⟩) es.length c) (.inr (Q7 _)) rfl rfl rfl t_
  (λb i _=>Below.heap_alloc _ _ _ i) (λb _ i=> .inr (by simp[br,Qb]at i;omega))
  (λhs p=>⟨d.toList.take (es.length*k),⟨r,.inr ⟨w.heap.size,c,d,rfl,QS (FT E _) h.fr.size,qa8 w _,f,q,by simpa using g,rfl⟩⟩,n,l.mono hs p⟩)
 refine⟨_,h1,?_⟩;refine .own _ _ _ _ _ m ?_ (λ_=> ?_)
 .simp[St.gh,St.dh,bf]
 .simp[St.gh,St.dh,bf]
def Rel.newRow(h:Rel E S a w L)(i:nid<S.N){e k:Nat}{es:Z (Z PV)}{b:Array Va}(g:∀u∈es,u.length=k)(j:es.length<=maxLen)(d:aK w (aH E S L) (S.gh L) es.flatten b.toList):
  ∃c,Rel E (S.dh (some (nid,⟨(S.H nid).ab+1,.row e k es⟩))) a (w.alloc (.cells b e)) c/\
   aJ (w.alloc (.cells b e)) (aH E (S.dh (some (nid,⟨(S.H nid).ab+1,.row e k es⟩))) c) ((S.dh (some (nid,⟨(S.H nid).ab+1,.row e k es⟩))).gh c) (.own nid ((S.H nid).ab+1)) (.slice (some ⟨w.heap.size,0,none⟩) es.length es.length):=by
 have f:b.toList.length=es.length*k:=by rw[d.1,ib es k g]
 exact h.K5 i g (Ql _) j f (by rw[<-f,qbl];exact d)
def FQ(e:TI)(cells:Array Va):(newRow e cells).run P w= .ok ⟨w.heap.size,0,none⟩ (w.alloc (.cells cells e)):=rfl
def AI(e:TI)(v:Va):(newVar e v).run P w= .ok ⟨w.heap.size,0,none⟩ (w.alloc (.cells v.cells e)):=rfl
def PJ(h:Rel E S a w L)(g:nid<S.N){t:TI}{y:Od}{c:aM}(f:o.op= .box t y)(e:aL y=some c)(b:exec Γ nid S (.box c)=some (x,wr)):Good P E S a w o x wr:=by
 simp only[exec]at b;split at b
 .rename_i k;obtain⟨rfl,rfl⟩:=bh b;have r:=((h.dK e).cells (λz d=>Qe.1 k z d)).1
  let⟨l,j,i⟩:=h.Nq g t r
  exact⟨_,_,l,_,by simp[execOp,f,Instr.box,AI],.inl rfl,i,j⟩
 .cases b
def Rw(h:Rel E S a w L)(g:nid<S.N){t:TI}{z:Z PV}(f:o.op= .alloc t)(c:oL P t=some z)(b:exec Γ nid S (.alloc z)=some (x,wr)):Good P E S a w o x wr:=by
 simp only[exec]at b;obtain⟨rfl,rfl⟩:=bh b
 let⟨i,v,hi,d,hs,e⟩:=w9 (P:=P) (w:=w) (M:=aH E S L) (G:=S.gh L) c
 let⟨l,k,j⟩:=h.Nq g t e
 exact⟨_,_,l,_,by simp[execOp,f,Instr.alloc,zeroValue,typeInfo,hi,d,AI],.inl rfl,j,k⟩
theorem Cs(z:Array Va)(c:0<z.size)(n:Nat):((Array.range (n*z.size)).map (z[· % z.size]!)).toList=(replicate n z.toList).flatten:=by
 apply List.ext_getElem?;intro i;have g:(replicate n z.toList).flatten.length=n*z.size:=by rw[ib _ z.size (λu b=>by rw[(List.mem_replicate.1 b).2];simp)];simp
 by_cases hi:i<n*z.size
 .have f:i / z.size<n:=by rw[Nat.div_lt_iff_lt_mul c];exact hi
  have d:i % z.size<z.size:=Nat.mod_lt _ c;have:=sv (replicate n z.toList) z.size (i / z.size) z.toList (λu b=>by rw[(List.mem_replicate.1 b).2];simp) (by rw[List.getElem?_replicate,Qc f]) (i % z.size) d
  have e:i / z.size*z.size+i % z.size=i:=by rw[Nat.mul_comm];exact Nat.div_add_mod i z.size
  rw[e]at this;rw[this];simp[hi,d]
 .grind
def zC{α:Type}:∀(es:Z (Z α)) (k i:Nat) (xs:Z α),(∀u∈es,u.length=k)->xs.length=k->i<es.length->(es.set i xs).flatten=es.flatten.take (i*k)++xs++es.flatten.drop (i*k+xs.length)
 |[],_,_,_,_,_,h=>by simp at h
 |e::es,k,i,xs,hk,b,hi=>by
  have c:e.length=k:=hk e t_
  cases i with
  |zero=>simp[List.set_cons_zero,List.flatten_cons,Nat.zero_mul,List.take_zero,List.nil_append,qam];rw[b,<-c,List.drop_left]
  |succ i=>
   have:=zC es k i xs (λu d=>hk u (by simp[d])) b (by simpa using hi)
   simp[List.set_cons_succ,List.flatten_cons,this];have f:(i+1)*k=e.length+i*k:=by rw[QM,c];omega
   rw[f,List.take_append,List.take_of_length_le (show e.length<=e.length+i*k by omega),qa9,Nat.add_assoc,List.drop_append,
    List.drop_eq_nil_of_le (show e.length<=e.length+(i*k+xs.length)by omega),qa9]
   simp
def Iw(k:Nat):∀(ps:Z (Nat×aM)) (es b:Z (Z PV)),(∀u∈es,u.length=k)->ow S k es ps=some b->
  lS S es.flatten (ps.map λp=>(p.1*k,k,p.2))=some b.flatten/\(∀u∈b,u.length=k)/\b.length=es.length
 |[],es,b,hk,c=>by simp[ow,Qb]at c;subst c;exact⟨rfl,hk,rfl⟩
 |(i,y)::ps,es,b,hk,c=>by
  simp only[ow]at c;split at c
  .rename_i h
   let⟨h1,n,m⟩:=h
   have f:∀u∈es.set i (y.val S).cells,u.length=k:=by
    intro u d;rcases List.mem_or_eq_of_mem_set d with d|d
    .exact hk u d
    .rw[d,h1]
   let⟨g,l,j⟩:=Iw k ps _ _ f c
   refine⟨?_,l,by simpa using j⟩
   have e:i*k+k<=es.flatten.length:=by
    rw[ib es k hk];have:=QT k (show i+1<=es.length by omega)
    rw[QM]at this;omega
   simp only[Qj,lS];rw[Qc ⟨h1,e,m⟩];rw[zC es k i _ hk h1 n]at g;exact g
  .cases c
def Iz{k:Nat}:∀{b:Z (Nat×Od)} {ps:Z (Nat×aM)},(b.mapM λp=>(aL p.2).map λy=>(p.1,y))=some ps->pM (λj=>some (j*k,k)) b=some (ps.map λp=>(p.1*k,k,p.2))
 |[],ps,h=>by simp at h;subst h;simp[pM]
 |p::b,ps,h=>by simp only[QE,Qh,Qd,QN,Qb,Qi]at h;obtain⟨q,⟨y,e,rfl⟩,f,c,rfl⟩:=h;have d:=Iz (k:=k) c;unfold pM at d ⊢;simp only[QE,d];simp[e]
theorem qg{M:Nat->Prop}{G:Gh}{z:Z PV}{vs:Z Va}(h:aK w M G z vs):∀n,aK w M G (replicate n z).flatten (replicate n vs).flatten
 |0=>by simpa using aK.nil
 |n+1=>by simp[List.replicate_succ,List.flatten_cons];exact h.append (qg h n)
def aJ.HL{M:Nat->Prop}{G G':Gh}{y:PV}{v:Va}(h:aJ w M G y v)(g:y.closed=true):aJ w M G' y v:=by
 cases h with
 |any|undef|ff|agg|bP|ptr|own|ct|view=>simp[PV.closed]at g
 |int=>exact .int _ _
 |bool=>exact .bool _
 |dP=>first|exact .dP _|simp[PV.closed]at g
 |str=>exact .str _
 |fD=>exact .fD
 |cz=>exact .cz
 |aQ f cs vs e h=>
  cases cs with
  |nil=>exact .aQ f [] vs e (λi x v m _=>by simp at m)
  |cons=>simp[PV.closed]at g
 |ref cs ad vs e d h=>exact .ref cs ad vs e d h
 |sl es ad c k vs hk e d h p hm=>exact .sl es ad c k vs hk e d h p hm
 |slnil=>exact .slnil
 |qq=>exact .qq
 |rW T v=>exact .rW T v
 |fF T x v l h=>exact .fF T x v l (h.plain l)
 |gl ks us b es s q j hk n h1 r=>exact .gl ks us b es s q j hk n h1 r
def Tc(h:Rel E S a w L){t:TI}{y:Od}{e:aM}(B:o.op= .box t y)(s:aL y=some e)(d:exec Γ nid S (.C7 e)=some (x,wr)):Good P E S a w o x wr:=by
 simp only[exec]at d;split at d
 .rename_i l;rw[Qa]at l;obtain⟨rfl,rfl⟩:=bh d;have r:=((h.dK s).cells (λz c=>Qe.1 l.1 z c)).1
  let⟨F,g⟩:=h.grow (w':=w.alloc (.cells (a.eval y).cells t)) rfl rfl rfl t_ (λb k=>Below.heap_alloc _ _ _ k)
  refine⟨.value (.pointer (some ⟨w.heap.size,0,none⟩)),_,L,_,by simp[execOp,B,Instr.box,AI],.inl rfl,?_,F⟩
  have m:aK (w.alloc (.cells (a.eval y).cells t)) (aH E S L) cr (e.val S).cells (a.eval y).cells.toList:=
   ⟨r.1,λp z n c f=>((r.2 p z n c f).mono g (Gh.le.refl _)).HL (Qe.1 l.2 z (QG c))⟩
  refine .ref _ _ (a.eval y).cells.toList m.1 (λq u A=>⟨?_,λi=> ?_⟩) m.2
  .rw[add_mid];exact kS (qa8 w _) (by simpa using A)
  .rcases i with⟨id,j,D,k⟩|i
   .have:=((h.obj id j).pO D k).1;exact absurd this (qaI _)
   .exact absurd (h.NW i) (qaI _)
 .cases d
theorem aJ.nz{M:Nat->Prop}{G:Gh}{y:PV}{v:Va}(h:aJ w M G y v):aJ w M G (nz y) v:=by
 cases h with
 |cz|slnil=>exact .slnil
 |any=>exact .any _
 |undef=>exact .undef
 |int=>exact .int _ _
 |bool=>exact .bool _
 |dP=>exact .dP _
 |str=>exact .str _
 |fD=>exact .fD
 |aQ f cs vs d h=>exact .aQ f cs vs d h
 |ff f cs vs d h=>exact .ff f cs vs d h
 |agg cs vs d h=>exact .agg cs vs d h
 |bP cs vs d h=>exact .bP cs vs d h
 |ptr _ _ _ _ h1 e g=>exact .ptr _ _ _ _ h1 e g
 |ref cs ad vs d i h=>exact .ref cs ad vs d i h
 |sl es ad c k vs hk d i h n hm=>exact .sl es ad c k vs hk d i h n hm
 |own _ _ _ _ _ h1 e g=>exact .own _ _ _ _ _ h1 e g
 |ct _ _ _ _ _ _ h1 e g=>exact .ct _ _ _ _ _ _ h1 e g
 |view _ _ _ _ _ _ _ h1 e g=>exact .view _ _ _ _ _ _ _ h1 e g
 |qq=>exact .qq
 |rW T v=>exact .rW T v
 |fF T x v l h=>exact .fF T x v l (h.plain l)
 |gl ks us b es q p j hk m h1 e=>exact .gl ks us b es q p j hk m h1 e
theorem aK.nz{M:Nat->Prop}{G:Gh}{cs:Z PV}{vs:Z Va}(h:aK w M G cs vs):aK w M G (cs.map Go.TQ.nz) vs:=
 ⟨by simp[h.1],λi x v b d=>by
  rw[Qt,Qi]at b;obtain⟨y,c,rfl⟩:=b
  exact(h.2 i y v c d).nz⟩
theorem Eu(es:Z (Z PV)):(xo es).flatten=es.flatten.map nz:=by simp[xo,List.map_flatten]
def Ml(es:Z (Z PV)):(xo es).length=es.length:=by simp[xo]
def Rg{es:Z (Z PV)}{k:Nat}(h:∀u∈es,u.length=k):∀u∈xo es,u.length=k:=by grind [xo]
theorem Nk{y:PV}(h:y.closed=true):(nz y).closed=true:=by cases y<;>simp_all [nz,PV.closed]
def U2(h:Rel E S a w L)(hn:nid<S.N){t e:TI}{len:Nat}{c:Array (Nat×Od)}{i:TypeInfo}{z:Z PV}{ps:Z (Nat×aM)}{mb:Bool}(ho:o.op= .buildSlice t len c)(X:P.underlying t=some (.slice e))
  (hi:P.info? e=some i) (hz:oL P e=some z) (R:(c.toList.mapM λp=>(aL p.2).map λy=>(p.1,y))=some ps) (K:len*i.size<=16777216) (h0:0<i.size) (hlen:len<=maxLen)
  (n:exec Γ nid S (.GW mb e i.size (replicate len z) ps)=some (x,wr)):Good P E S a w o x wr:=by
 simp only[exec]at n;split at n
 case h_2=>cases n
 rename_i es hf;obtain⟨i',v,g,hv,hs,hr⟩:=w9 (P:=P) (w:=w) (M:=aH E S L) (G:=S.gh L) hz;rw[hi]at g;injection g with g
 subst g;have F:z.length=i.size:=by have:=hr.1;simp at this;omega
 obtain⟨h3,h4,h5⟩:=Iw i.size ps _ _ (λu J=>by rw[(List.mem_replicate.1 J).2,F]) hf
 have Q:aK w (aH E S L) (S.gh L) (replicate len z).flatten ((Array.range (len*i.size)).map (v.cells[· % v.cells.size]!)).toList:=by grind [Cs,qg]
 obtain⟨cells,V,hr'⟩:=DA h _ _ _ _ _ _ (Iz R) Q h3;have B:(xo es).length=len:=by rw[Ml,h5];simp
 replace h4:=Rg h4;replace hr':=hr'.nz;rw[<-Eu]at hr'
 have k:(execOp a.eval o).run P w= .ok (.value (.slice (some ⟨w.heap.size,0,none⟩) len len)) (w.alloc (.cells cells e)):=by
  have d:Instr.fill (λj=>some (j*i.size,i.size)) ((Array.range (len*i.size)).map (v.cells[· % v.cells.size]!)) (c.map λp=>(p.1,a.eval p.2)).toList=some cells:=by simpa using V
  by_cases m:len*i.size=0
  .simp[execOp,ho,Instr.buildSlice,Qo X,sizeOf,typeInfo,hi,m]at d ⊢;have A:len=0:=by rcases Nat.mul_eq_zero.1 m with h|h<;>omega
   subst A;have s:∀f:Nat->Va,Array.map f (Array.range 0)=#[]:=λf=>t_
   rw[s]at d ⊢;rw[show Instr.fill (λl=>some (l*i.size,i.size)) #[] (List.map (λx=>(x.fst,a.eval x.snd)) c.toList)=some cells from d]
   simp[FQ]
  .simp[execOp,ho,Instr.buildSlice,Qo X,sizeOf,typeInfo,zeroValue,hi,hv,m,qaV.2 K]at d ⊢;rw[show Instr.fill (λl=>some (l*i.size,i.size)) (Array.map (λx=>v.cells[x % v.cells.size]!) (Array.range (len*i.size))) (List.map (λx=>(x.fst,a.eval x.snd)) c.toList)=some cells from d]
   simp[FQ]
 split at n
 .rename_i hcl;obtain⟨rfl,rfl⟩:=bh n;obtain⟨h1,N⟩:=h.grow (w':=w.alloc (.cells cells e)) rfl rfl rfl t_ (λb W=>Below.heap_alloc _ _ _ W)
  refine⟨_,_,L,_,k,.inl rfl,?_,h1⟩
  have D:∀y∈(xo es).flatten,y.closed=true:=λy H=>by grind [Eu,Nk]
  have r:aK (w.alloc (.cells cells e)) (aH E S L) cr (xo es).flatten cells.toList:=
   ⟨hr'.1,λi0 y v0 H I=>((hr'.2 i0 y v0 H I).mono N (Gh.le.refl _)).HL (D y (QG H))⟩
  rw[<-B];refine .sl (xo es) _ _ i.size cells.toList h4 r.1 (λq u J=>⟨?_,λT=> ?_⟩) r.2 (Ql _) O
  .rw[add_mid];exact kS (qa8 w _) (by simpa using J)
  .rcases T with⟨id,U,hl,W⟩|T
   .have:=((h.obj id U).pO hl W).1;exact absurd this (qaI _)
   .exact absurd (h.NW T) (qaI _)
 .obtain⟨rfl,rfl⟩:=bh n
  let⟨L',h6,h7⟩:=h.newRow (e:=e) hn h4 O hr'
  rw[B]at h7;exact⟨_,_,L',_,k,.inl rfl,h7,h6⟩
def UU(h:Rel E S a w L)(hn:nid<S.N){t e:TI}{y z:Od}{K J:aM}{i:TypeInfo}{f:Z PV}(ho:o.op= .makeSlice t y z)(ht:P.underlying t=some (.slice e))(hi:P.info? e=some i)(h0:0<i.size)(V:oL P e=some f)
  (W:aL y=some K) (r:aL z=some J) (d:exec Γ nid S (.Ga e i.size i.bytes f K J)=some (x,wr)):Good P E S a w o x wr:=by
 have Q:=h.dK W;have N:=h.dK r;simp only[exec]at d;split at d
 .rename_i k n U m e1 e2;split at d
  .rename_i hb;obtain⟨B,D,hby,l⟩:=hb;obtain⟨rfl,rfl⟩:=bh d;rw[e1]at Q;rw[e2]at N;have X:=Q.c4;have g:=N.c4;obtain⟨i',v,b,s,hs,R⟩:=w9 (P:=P) (w:=w) (M:=aH E S L) (G:=S.gh L) V;rw[hi]at b;injection b with b
   subst b;have q:f.length=i.size:=by have:=R.1;simp at this;omega
   have F:n.toNat<=m.toNat:=O
   have j:(madeCells v.cells (m.toNat*i.size)).toList=(replicate m.toNat v.cells.toList).flatten:=by
    unfold madeCells
    grind [Cs]
   have H:(madeCells v.cells (m.toNat*i.size)).toList.length=m.toNat*i.size:=by simp[madeCells]
   have A:aK w (aH E S L) (S.gh L) (replicate n.toNat (f.map nz)).flatten ((madeCells v.cells (m.toNat*i.size)).toList.take ((replicate n.toNat (f.map nz)).length*i.size)):=by
    rw[j,List.length_replicate,show m.toNat=n.toNat+(m.toNat - n.toNat)by omega,<-List.replicate_append_replicate,List.flatten_append,List.take_left' (by rw[ib _ i.size λu g=>by rw[(List.mem_replicate.1 g).2];simpa using hs,List.length_replicate])]
    exact qg R.nz _
   obtain⟨L',h6,T⟩:=h.K5 (e:=e) (k:=i.size) (c:=m.toNat) hn (λu g=>by rw[(List.mem_replicate.1 g).2,Qw,q]) (by rw[List.length_replicate];exact F) l H A
   simp[List.length_replicate]at T;refine⟨_,_,L',_,?_,.inl rfl,T,h6⟩
   have I:(i.bytes:Int)*m<=281474976710656:=by grind
   have p:m<=9223372036854775807:=by simp[maxLen]at l;omega
   have:=run_make (P:=P) w t e i v ht hi s k U n m D B I p;simp[execOp,ho,X,g,Qu,this,QI,QP]
  .cases d
 .cases d
def Cf{t:TI}{y z:Od}{b c:Nat}{d:Array Va}{T:TI}{i:TypeInfo}(f:o.op= .store t y z)(hi:P.info? t=some i)(e:a.eval y= .pointer (some ⟨b,c,none⟩))(h:w.heap[b]?=some (.cells d T (0,0)))
  (hs:(a.eval z).cells.size=i.size) (g:c+i.size<=d.size) (j:∀u∈(a.eval z).cells.toList,u.oneCell'=true):
  (execOp a.eval o).run P w= .ok .skip (w.setRow b (d.toList.take c++(a.eval z).cells.toList++d.toList.drop (c+i.size)).toArray):=by
 have:=qbp (P:=P) b c T (a.eval z).cells.toList 0 d w h o_ j;simp[qbn,Q0,hs]at this;simp[execOp,f,e,Instr.storeAt,Instr.sureAddr,storeVar,sizeOf,typeInfo,hi,hs,this]
theorem Lw{α:Type}(F c xs:Z α)(k J off n:Nat)(i:c.length=k)(d:J+k<=F.length)(h:xs.length=n)(b:off+n<=k)(e:∀q,q<k->F[J+q]?=c[q]?):
  F.take J++(c.take off++xs++c.drop (off+n))++F.drop (J+k)=F.take (J+off)++xs++F.drop (J+off+n):=by
 have g:F.take (J+off)=F.take J++c.take off:=by
  apply List.ext_getElem?
  grind
 have f:F.drop (J+off+n)=c.drop (off+n)++F.drop (J+k):=by
  apply List.ext_getElem?
  grind
 rw[g,f];simp[qaj]
theorem Ek{α:Type}(b xs:Z α)(p n m:Nat)(c:xs.length=n)(f:p+n<=m)(d:m<=b.length):
  (b.take p++xs++b.drop (p+n)).take m=(b.take m).take p++xs++(b.take m).drop (p+n):=by
 rw[List.take_take,qaB O,List.take_append,List.take_of_length_le o_];congr 1;have e:(b.take p++xs).length=p+n:=o_;rw[e,List.drop_take]
def Rr(h:Rel E S a w L){t:TI}{y z:Od}{y' n:aM}{i:TypeInfo}(ho:o.op= .store t y z)(hi:P.info? t=some i)(hy:aL y=some y')(hz:aL z=some n)
  (f:exec Γ nid S (.store i.size y' n)=some (x,wr)):Good P E S a w o x wr:=by
 have r:=h.dK hy;simp only[exec]at f;split at f
 .rename_i hb;obtain⟨hl,h1⟩:=hb;have N:=(h.dK hz).cells (λu hu=>Qe.1 h1 u hu)
  have hs:(a.eval z).cells.size=i.size:=by have:=N.1.1;simp at this;omega
  split at f
  .rename_i id ab d e;rw[e]at r;split at f
   .rename_i m;split at f
    .rename_i cs A;split at f
     .rename_i hle;obtain⟨rfl,rfl⟩:=bh f;obtain⟨hN,_⟩:=r.lL (show(S.gh L).V id=ab from m)
      obtain⟨b,Q,D⟩:=h.nY r m A;obtain⟨b',l,T,J,W,hr,hE⟩:=h.mT hN A;rw[D]at J;simp only[Value.pointer.injEq,Qb,qaL]at J;obtain⟨rfl,_⟩:=J;have hcl:l.size=cs.length:=by have:=hr.1;simpa using this
      have s:=Cf (P:=P) ho hi Q W hs O N.2
      obtain⟨h2,p,X⟩:=h.nW (w':=w.setRow b (l.toList.take d++(a.eval z).cells.toList++l.toList.drop (d+i.size)).toArray) hN ⟨ab,.box (eL cs d (n.val S).cells)⟩ (L id) (.inl ⟨m.symm,rfl,by rw[A];rfl⟩) rfl rfl rfl t_
       (λk I H=>qbq w b k _ (λek=>H (by rw[A];rfl) (by rw[D,ek];rfl)))
       (λk _ I=> .inl ⟨by rw[A];rfl,I⟩)
       (λp X=>⟨b,_,T,D,qaC w b l _ T _ W,hE,by
        have:=(hr.eL N.1 d).mono p X
        simpa[hs]using this⟩)
      exact⟨_,_,_,undef,s,.inr ⟨rfl,rfl⟩,.undef,h2⟩
     .cases f
    .cases f
   .cases f
  .rename_i id ab k j d e;rw[e]at r;have K:=N.1.nz;have hl1:((n.val S).cells.map nz).length=i.size:=by simpa using hl
   split at f
   .rename_i m;split at f
    .rename_i e0 k' es A;split at f
     .rename_i I;subst I;split at f
      .rename_i c hcj;split at f
       .rename_i hle;obtain⟨rfl,rfl⟩:=bh f;obtain⟨hN,Q⟩:=r.Fm (show(S.gh L).V id=ab from m)
        obtain⟨vs,B,I,hr⟩:=h.fZ hN A;have hj:j<es.length:=(QL.1 hcj).1;rcases B.2 with⟨D,h0⟩|⟨g,cap,l,D,hb1,W,V,hcm,hcs,F⟩
        .omega
        rw[show(S.gh L).L id=L id from rfl,D]at Q
        simp only[br,Qn]at Q;have hck:c.length=k:=I c (QG hcj)
        have hjk:j*k+k<=es.length*k:=by
         have:=QT k (show j+1<=es.length by omega)
         rw[QM]at this;omega
        have hvl:vs.length=es.length*k:=B.1;have hcapk:es.length*k<=cap*k:=QT _ V;have s:=Cf (P:=P) ho hi Q W hs O N.2;have R:(eL c d ((n.val S).cells.map nz)).length=k:=by simp[eL,hl1];omega
        have hk2:∀u∈es.set j (eL c d ((n.val S).cells.map nz)),u.length=k:=by grind
        have hz2:((n.val S).cells.map nz).length=(a.eval z).cells.toList.length:=K.1.symm
        have hfl:(es.set j (eL c d ((n.val S).cells.map nz))).flatten=eL es.flatten (j*k+d) ((n.val S).cells.map nz):=by
         rw[zC es k j _ I R hj,R]
         grind [eL,Lw,nz,ib,sv]
        have U:(w.setRow g (l.toList.take (j*k+d)++(a.eval z).cells.toList++l.toList.drop (j*k+d+i.size)).toArray).ownsRow (dW E (L id)) e0 k (L id) (es.set j (eL c d ((n.val S).cells.map nz))).length (vs.take (j*k+d)++(a.eval z).cells.toList++vs.drop (j*k+d+i.size)):=by
         refine⟨by simp[hvl,hs];omega,.inr ⟨g,cap,_,by rw[D];simp,hb1,qaC w g l _ e0 _ W,by simpa using V,hcm,by simp[hcs,hs];omega,?_⟩⟩
         simp only[qa5];rw[<-F];simpa using Ek l.toList (a.eval z).cells.toList (j*k+d) i.size (es.length*k) (by simpa using hs) O (by simp[hcs];omega)
        obtain⟨h2,p,X⟩:=h.nW (w':=w.setRow g (l.toList.take (j*k+d)++(a.eval z).cells.toList++l.toList.drop (j*k+d+i.size)).toArray) hN ⟨ab,.row e0 k (es.set j (eL c d ((n.val S).cells.map nz)))⟩ (L id) (.inl ⟨m.symm,rfl,by rw[A];rfl⟩) rfl rfl rfl t_
         (λq hq H=>qbq w g q _ (λek=>H (by rw[A];rfl) (by rw[D,ek];rfl)))
         (λq _ hq=> .inl ⟨by rw[A];rfl,hq⟩)
         (λp X=>⟨_,U,hk2,by
          rw[hfl];have:=(hr.eL K (j*k+d)).mono p X
          simpa[hs]using this⟩)
        exact⟨_,_,_,undef,s,.inr ⟨rfl,rfl⟩,.undef,h2⟩
       .cases f
      .cases f
     .cases f
    .cases f
   .cases f
  .cases f
 .cases f
end
end
section
open Go.RowKit
section
variable{P:Pr}{E:En}{S:St}{a:Act}{w:Wo}{L:Nat->Va}{o:Oper}{x:PV}{wr:Y (Nat×dq)}{Γ:gL}{nid:Nat}
def wY(h:Rel E S a w L){y:Y Od}{c:Y aM}(f:y.mapM aL=some c){d n:Int}(b:nc S c d=some n):
  (y=none/\n=d)\/∃z k,y=some z/\a.eval z= .int k n:=by
 cases y with
 |none=>grind [nc]
 |some z=>
  simp[Option.mapM_some,Option.map_eq_map,Qi]at f;obtain⟨i,g,rfl⟩:=f;have r:=h.dK g;simp[nc]at b;split at b
  .rename_i k m e;rw[e]at r;injection b with b
   subst b;exact .inr ⟨z,k,rfl,r.c4⟩
  .cases b
theorem ou{α:Type}(k:Nat):∀(m:Nat) (fs:Z (Z α)),(∀u∈fs,u.length=k)->(fs.take m).flatten=fs.flatten.take (m*k)
 |0,fs,_|m+1,[],_=>t_
 |m+1,u::us,b=>by
  have c:u.length=k:=b u t_;simp[List.take_succ_cons,List.flatten_cons,ou k m us (λq d=>b q (by simp[d]))]
  rw[QM,qaD,qav,<-c,List.take_length_add_append]
theorem su{α:Type}(k:Nat):∀(m:Nat) (fs:Z (Z α)),(∀u∈fs,u.length=k)->(fs.drop m).flatten=fs.flatten.drop (m*k)
 |0,fs,_|m+1,[],_=>t_
 |m+1,u::us,b=>by
  have c:u.length=k:=b u t_;simp[List.drop_succ_cons,List.flatten_cons,su k m us (λq d=>b q (by simp[d]))]
  rw[QM,qaD,qav,<-c,List.drop_length_add_append]
def Dq{t e:TI}{y:Od}{lo hi:Y Od}{i:TypeInfo}{ad:Y Addr}{n c:Nat}{l h:Int}(q:o.op= .slice t y lo hi none)(g:P.underlying t=some (.slice e))(j:P.info? e=some i)
  (p:a.eval y= .slice ad n c) (b:(lo=none/\l=0)\/∃z k,lo=some z/\a.eval z= .int k l) (d:(hi=none/\h=n)\/∃z k,hi=some z/\a.eval z= .int k h) (A:0<=l) (u:l<=h) (s:h<=n) (r:n<=c):
  (execOp a.eval o).run P w= .ok (.value (.slice (if c=l.toNat then ad else ad.map (·.add (l.toNat*i.size))) (h.toNat - l.toNat) (c - l.toNat))) w:=by
 have F:0<=h:=O;have D:h<=(c:Int):=O;have B:l<=((h.toNat:Nat):Int):=O
 rcases b with⟨rfl,rfl⟩|⟨z,k,rfl,m⟩<;>rcases d with⟨rfl,rfl⟩|⟨z2,k2,rfl,f⟩<;>
  simp[execOp,Instr.sliceAt,Instr.slice,Qo g,Instr.sliceBounds,Instr.sliceBound,asIntOf,sizeOf,typeInfo, *]<;>omega
def UR(h:Rel E S a w L){t e:TI}{y:Od}{lo hi:Y Od}{y':aM}{X hi':Y aM}{i:TypeInfo}(ho:o.op= .slice t y lo hi none)(ht:P.underlying t=some (.slice e))(J:P.info? e=some i)
  (hy:aL y=some y') (T:lo.mapM aL=some X) (U:hi.mapM aL=some hi') (b:exec Γ nid S (.B9 i.size y' X hi')=some (x,wr)):Good P E S a w o x wr:=by
 have r:=h.dK hy;simp only[exec]at b;split at b
 .rename_i es e0;rw[e0]at r;split at b
  .rename_i hall;have V:∀u∈es,u.length=i.size:=λu I=>by have:=Qe.1 hall u I;simpa using this
   split at b
   .rename_i l D el eh;split at b
    .rename_i hb
     let⟨B,A,z⟩:=hb
     obtain⟨rfl,rfl⟩:=bh b;have W:=wY h T (d:=0) (n:=l) (by unfold nc;exact el)
     have s:=wY h U (d:=(es.length:Int)) (n:=D) (by unfold nc;exact eh)
     have F:((es.take D.toNat).drop l.toNat).length=D.toNat - l.toNat:=o_;rcases r.xd with⟨N,Q⟩|⟨ad,c,k,vs,N,hk,hr,hc,hn,hm⟩
     .subst Q;refine Good.pure h (Dq (n:=0) ho ht J N W (by simpa using s) B A (by simpa using z) (Ql _)) ?_
      grind
     .refine Good.pure h (Dq ho ht J N W s B A z hn) ?_;rw[<-F];have H:∀u∈(es.take D.toNat).drop l.toNat,u.length=i.size:=λu I=>V u (qbi (qbj I))
      have hfl:((es.take D.toNat).drop l.toNat).flatten=(es.flatten.take (D.toNat*i.size)).drop (l.toNat*i.size):=by
       have t1:∀(m:Nat) (fs:Z (Z PV)),(∀u∈fs,u.length=i.size)->(fs.take m).flatten=fs.flatten.take (m*i.size):=by
        intro m
        induction m with
        |zero=>intro fs _;simp
        |succ m ih=>
         intro fs hf
         cases fs with
         |nil=>simp
         |cons u us=>
          have I:u.length=i.size:=hf u t_;simp[List.take_succ_cons,List.flatten_cons,ih us (λq hq=>hf q (by simp[hq]))]
          rw[QM,qaD,qav,<-I,List.take_length_add_append]
       have t2:∀(m:Nat) (fs:Z (Z PV)),(∀u∈fs,u.length=i.size)->(fs.drop m).flatten=fs.flatten.drop (m*i.size):=by
        intro m
        induction m with
        |zero=>intro fs _;simp
        |succ m ih=>
         intro fs hf
         cases fs with
         |nil=>simp
         |cons u us=>
          have I:u.length=i.size:=hf u t_;simp[List.drop_succ_cons,List.flatten_cons,ih us (λq hq=>hf q (by simp[hq]))]
          rw[QM,qaD,qav,<-I,List.drop_length_add_append]
       grind
      have R:=(hr.take (D.toNat*i.size)).drop (l.toNat*i.size);rw[<-hfl]at R
      by_cases hcl:c=l.toNat
      .have hnil:(es.take D.toNat).drop l.toNat=[]:=qak (by rw[F];omega)
       rw[Qc hcl,hnil];exact .sl [] ad _ i.size [] t_ t_ (λj u I=>by simp at I) (λj p u hp=>by simp at hp) (Q9 _) O
      .rw[Qf hcl];simp only[Qn];refine .sl _ _ _ i.size _ H R.1 (λj u I=> ?_) R.2 (by rw[F];omega) O
       grind [add_add,C8,et]
    .cases b
   .cases b
  .cases b
 .rename_i id ab e0;rw[e0]at r;split at b
  .rename_i f;split at b
   .rename_i e1 k' es hcc;split at b
    .rename_i H;subst H;split at b
     .rename_i l D el eh;split at b
      .rename_i hb
       let⟨B,A,z⟩:=hb
       obtain⟨rfl,rfl⟩:=bh b
       let⟨hN,N⟩:=r.iA (show(S.gh L).V id=ab from f)
       let⟨vs,hown,hk,hr⟩:=h.fZ hN hcc
       have W:=wY h T (d:=0) (n:=l) el;have s:=wY h U (d:=(es.length:Int)) (n:=D) eh
       have K:∃ad c,L id= .slice ad es.length c/\es.length<=c:=by
        rcases hown.2 with⟨K,Q⟩|⟨g,cap,cur,K,_,_,hnc,_⟩
        .grind
        .exact⟨_,cap,K,hnc⟩
       let⟨ad,c,K,hc⟩:=K
       rw[show(S.gh L).L id=L id from rfl,K]at N
       refine Good.pure h (Dq ho ht J N W s B A z hc) ?_;refine .view _ _ _ _ _ _ _ hN (qau f.symm) (λ_=>⟨ad,es.length,c,K,O,hc,rfl,?_⟩)
       by_cases Q:c=l.toNat
       .rw[Qc Q]
        by_cases h1:l.toNat=0
        .right;rw[h1];cases ad<;>simp[Addr.add]
        .left;exact⟨O,h1,λe=>e⟩
       .rw[Qf Q];right;rfl
      .cases b
     .cases b
    .cases b
   .cases b
  .cases b
 .rename_i id ab k0 lo0 n0 e0;rw[e0]at r;split at b
  .rename_i f;split at b
   .rename_i e1 k' es hcc;split at b
    .rename_i H
     let⟨hk1,hk2⟩:=H
     subst hk2;split at b
     .rename_i l D el eh;split at b
      .rename_i hb
       let⟨B,A,z⟩:=hb
       obtain⟨rfl,rfl⟩:=bh b
       let⟨hN,ad,c,N,a0,m0,c0,K,q1,q2,q3,q4⟩:=r.tt (show(S.gh L).V id=ab from f)
       have W:=wY h T (d:=0) (n:=l) el;have s:=wY h U (d:=(n0:Int)) (n:=D) eh;refine Good.pure h (Dq ho ht J N W s B A z O) ?_;refine .view _ _ _ _ _ _ _ hN (qau f.symm) (λ_=>⟨a0,m0,c0,K,O,q2,O,?_⟩)
       by_cases Q:c=l.toNat
       .rw[Qc Q]
        by_cases h1:lo0+l.toNat=0
        .grind
        .left;refine⟨O,h1,λe=> ?_⟩
         rcases q4 with q4|q4
         .exact q4.2.2 e
         .rw[q4]at e;cases a0<;>first|rfl|cases e
       .rw[Qf Q];rcases q4 with q4|q4
        .left;refine⟨O,O,λe=>q4.2.2 ?_⟩
         cases ad<;>first|rfl|cases e
        .right;rw[q4];cases a0<;>simp[add_add,QM]
      .cases b
     .cases b
    .cases b
   .cases b
  .cases b
 .cases b
def DN{base:Nat}{t ty e:TI}{i:TypeInfo}{size:Nat}(f:P.underlying t=some (.slice e))(hi:P.info? e=some i)
  {v:Va} {n:Nat} {xs:Z Va} (b:w.ownsRow base e size v n xs) (c:Nat):(Builtin.append_ #[t,t] ty #[v,.slice none 0 c]).run P w= .ok v w:=by
 rcases b.2 with⟨rfl,rfl⟩|⟨g,cap,h,rfl,_,_,d,_⟩
 .simp[Builtin.append_,Qo f,sizeOf,typeInfo,hi,Builtin.lenOf,Builtin.firstCells]
 .simp[Builtin.append_,Qo f,sizeOf,typeInfo,hi,Builtin.lenOf,Builtin.firstCells,d,storeCells]
def Rel.Ez(h:Rel E S a w L){y:PV}{v:Va}{es:Z (Z PV)}(r:aJ w (aH E S L) (S.gh L) y v)(b:gQ S y=some es):
  (v= .slice none 0 0/\es=[])\/∃(ad:Addr) (c:Nat) (vs:Z Va),v= .slice (some ad) es.length c/\aK w (aH E S L) (S.gh L) es.flatten vs/\(∀(i:Nat) (u:Va),vs[i]?=some u->w.cell? (ad.add i)=some u):=by
 unfold gQ at b;split at b
 .cases b;exact .inl ⟨r.mA,rfl⟩
 .cases b;rcases r.xd with⟨j,B⟩|⟨ad,c,k,vs,j,hk,q,p,_⟩
  .exact .inl ⟨j,B⟩
  .exact .inr ⟨ad,c,vs,j,q.mono (bO.of λ_ R=>R) (cr.le _),λi u D=>(p i u D).1⟩
 .rename_i id ab;split at b
  .rename_i e;split at b
   .rename_i p;cases b
    let⟨A,j⟩:=r.iA (show(S.gh L).V id=ab from e)
    let⟨vs,d,hk,q⟩:=h.fZ A p
    rcases d.2 with⟨f,B⟩|⟨g,cap,J,f,_,T,_,_,_,l⟩
    .exact .inl ⟨by rw[j];exact f,qak B⟩
    .refine .inr ⟨⟨g,0,none⟩,cap,vs,by rw[j];exact f,q,λi u D=> ?_⟩
     exact d.cells (g:=g) (by rw[f];rfl) i u D
   .cases b
  .cases b
 .rename_i id ab k lo n;split at b
  .rename_i e;split at b
   .rename_i Q z m p;split at b
    .rename_i N;subst N;cases b
     let⟨A,ad,c,j,s⟩:=r.tt (show(S.gh L).V id=ab from e)
     have N:=h.Dm A p s
     let⟨a0,m0,c0,f,q1,q2,q3,q4⟩:=s
     let⟨vs,d,hk,q⟩:=h.fZ A p
     have f:L id= .slice a0 m0 c0:=f;have K:((m.drop lo).take n).length=n:=o_;rcases d.2 with⟨t,B⟩|⟨g,cap,J,t,_,T,_,_,_,l⟩
     .grind
     .rw[t]at f;injection f with Q V U
      subst Q V U
      have I:((m.drop lo).take n).flatten=(m.flatten.drop (lo*z)).take (n*z):=by grind [ou,su]
      have F:=(q.drop (lo*z)).take (n*z);rw[<-I]at F
      by_cases H:n=0
      .subst H
       cases ad with
       |none|some ad=>grind
      .grind [add_mid,kS,et]
    .cases b
   .cases b
  .cases b
 .cases b
def ig{v:Va}{ad:Y Addr}{n c:Nat}(h:v= .slice ad n c):v.ownBlock=br v:=by subst h;cases ad<;>rfl
def xI{P:Pr}(w:Wo)(base:Nat)(t ty e:TI)(i:TypeInfo)(z:Va)(size p:Nat)(D:P.underlying t=some (.slice e))(hi:P.info? e=some i)(N:i.zero=some z)
  (r:i.size=size) (J:i.bytes=p) (R:0<size)
  (v:Va) (n:Nat) (xs:Z Va) (l:w.ownsRow base e size v n xs)
  (a:Addr) (m c:Nat) (b:Z Va) (y:b.length=m*size) (d:∀j u,b[j]?=some u->w.cell? (a.add j)=some u) (h1:∀u∈b,u.oneCell'=true)
  (K:n+m<=maxLen) (f:(n+m)*p<=140737488355328) {v':Va} {w':Wo} (Q:(Builtin.append_ #[t,t] ty #[v,.slice (some a) m c]).run P w= .ok v' w'):w.drawn<=w'.drawn:=by
 subst r;subst J;have F:n+m<=9223372036854775807:=by simp[maxLen]at K;omega
 have q:∀{u:Va} {W:Wo},(Builtin.append_ #[t,t] ty #[v,.slice (some a) m c]).run P w= .ok u W->w.drawn<=W.drawn->w.drawn<=w'.drawn:=λh hd=>by grind
 rcases l.2 with⟨rfl,rfl⟩|⟨g,cap,B,rfl,hbg,V,T,X,I,H⟩
 .by_cases U:m=0
  .subst U;have hn:b=[]:=qak (by simpa using y)
   refine q (u:= .slice none 0 0) (W:=w) ?_ (Ql _);simp[Builtin.append_,Qo D,sizeOf,typeInfo,hi,Builtin.lenOf,Builtin.firstCells,loadCells,loadCellsFrom]
  .exact q (run_append_nil (P:=P) w t ty e i z D hi N a m c b y d O O (by have hb:=f;simp[qam]at hb;omega)) (qas _)
 .by_cases k:n+m<=cap
  .have A:n*i.size+b.length<=B.size:=by rw[y,I,<-QM];exact QT _ k
   exact q (run_append_room (P:=P) w t ty e i D hi g n cap B V a m c b y d h1 k A) (Ql _)
  .have s:∀j u,xs[j]?=some u->w.cell? ((⟨g,0,none⟩:Addr).add j)=some u:=l.cells (g:=g) rfl;exact q (run_append_grow (P:=P) w t ty e i z D hi N ⟨g,0,none⟩ n cap xs l.1 s a m c b y d O O (growslice_fits O f)) (qas _)
def PL(h:Rel E S a w L)(hn:nid<S.N){t e:TI}{y z:Od}{y' z':aM}{i:TypeInfo}{zv:Va}(ho:o.op= .call {callee:= .builtin .append,args:=#[y,z],argTypes:=#[t,t]})(ht:P.underlying t=some (.slice e))(hi:P.info? e=some i)
  (hzv:i.zero=some zv) (hzs:zv.cells.size=i.size) (hsz:0<i.size) (hy:aL y=some y') (hz:aL z=some z') (p:exec Γ nid S (.bm false e i.size i.bytes y' z')=some (x,wr)):Good P E S a w o x wr:=by
 have ry:=h.dK hy;have rz:=h.dK hz
 have hexec:∀(r:Result Va),(Builtin.append_ #[t,t] o.type #[a.eval y,a.eval z]).run P w=r->(execOp a.eval o).run P w=r.andThen λv w'=> .ok (.value v) w':=by intro r T;simp[execOp,ho,resolve,invoke,builtin,T]
 simp only[exec,Da]at p;split at p
 .rename_i d X;split at p
  .rename_i hall;have A:∀u∈d,u.length=i.size/\u.all PV.one=true:=λu H=>by have:=Qe.1 hall u H;simpa using this
   have hnl:d.flatten.length=d.length*i.size:=ib d i.size (λu H=>(A u H).1)
   have U:∀{vs:Z Va},aK w (aH E S L) (S.gh L) d.flatten vs->∀u∈vs,u.oneCell'=true:=by
    intro vs T u H;obtain⟨q,hq,rfl⟩:=List.mem_iff_getElem.1 H;have hx:q<d.flatten.length:=by rw[<-T.1];exact hq
    have hm:d.flatten[q]∈d.flatten:=qar hx
    let⟨el,hel,hmem⟩:=List.mem_flatten.1 hm
    exact((T.2 q _ _ (Qv hx) (Qv hq)).one (Qe.1 (A el hel).2 _ hmem)).1
   have R:∀(s:Nat) (hid:s<S.N) (es:Z (Z PV)) (m:Nat) (v:Va) (vs:Z Va),a.eval y=v->w.ownsRow (dW E v) e i.size v es.length vs->aK w (aH E S L) (S.gh L) es.flatten vs->
     (∀u∈es,u.length=i.size)->(S.H s).ab<m->(∀b,v.ownBlock=some b->(S.H s).c.live=true/\br (L s)=some b)->es.length+d.length<=maxLen->(es.length+d.length)*i.bytes<=140737488355328->
     Good P E S a w o (.own s m) (some (s,⟨m,.row e i.size (es++d)⟩)):=by
    intro s hid es m v vs hv k T hk F V B N
    have hk2:∀u∈es++d,u.length=i.size:=λu H=>by
     rcases Qr.1 H with H|H
     .exact hk u H
     .exact(A u H).1
    have hrun:∃v' w' us,(Builtin.append_ #[t,t] o.type #[a.eval y,a.eval z]).run P w= .ok v' w'/\w'.ownsRow (dW E v) e i.size v' (es.length+d.length) (vs++us)/\w.grownBy w' v.ownBlock/\
      (v'.ownBlock=v.ownBlock\/v'.ownBlock=some w.heap.size)/\aK w (aH E S L) (S.gh L) d.flatten us/\w.drawn<=w'.drawn:=by
     rcases h.Ez rz X with⟨W,I⟩|⟨ad,c,us,W,K,hcz⟩
     .subst I;refine⟨v,w,[],by rw[hv,W];exact DN ht hi k 0,by simpa using k,World.grownBy.refl w _,.inl rfl,aK.nil,Ql _⟩
     .have hus:us.length=d.length*i.size:=by rw[K.1,hnl]
      let⟨v',w',h1,h2,h3,_,h5⟩:=qbr (P:=P) w (dW E v) t o.type e i zv i.size i.bytes ht hi hzv rfl rfl hzs hsz v es.length vs k ad d.length c us hus hcz (U K) B N (QS (FT E v) h.fr.size)
      exact⟨v',w',us,by rw[hv,W];exact h1,h2,h3,h5,K,xI w (dW E v) t o.type e i zv i.size i.bytes ht hi hzv rfl rfl hsz v es.length vs k ad d.length c us hus hcz (U K) B N h1⟩
    let⟨v',w',us,hr1,f,J,j,hru,hdrw⟩:=hrun
    have D:∃ad n c,v'= .slice ad n c:=by
     rcases f.2 with⟨rfl,_⟩|⟨g,cap,Q,rfl,_⟩
     .exact⟨_,_,_,rfl⟩
     .exact⟨_,_,_,rfl⟩
    let⟨ad',n',c',D⟩:=D
    have hvb:∃ad n c,v= .slice ad n c:=by
     rcases k.2 with⟨rfl,_⟩|⟨g,cap,Q,rfl,_⟩
     .exact⟨_,_,_,rfl⟩
     .exact⟨_,_,_,rfl⟩
    let⟨ad0,n0,c0,hv0⟩:=hvb
    have f:w'.ownsRow (dW E v') e i.size v' (es.length+d.length) (vs++us):=by
     rcases j with j|j
     .rw[vr (v:=v') (v':=v) (by rw[<-ig D,<-ig hv0,j])]
      exact f
     .refine⟨f.1,?_⟩;rcases f.2 with I|⟨g,cap,Q,e1,e2,e3⟩
      .exact .inl I
      .rw[ig D]at j;have hg:g=w.heap.size:=by rw[e1]at j;simpa[br]using j
       refine .inr ⟨g,cap,Q,e1,?_,e3⟩;rw[El j h.fr.size,hg];exact h.fr.size
    let⟨h2,hs2,hg2⟩:=h.nW (w':=w') (hdr:=DL.of hdrw) hid ⟨m,.row e i.size (es++d)⟩ v' (.inr F) J.os J.tape J.output J.size
     (λb l hne=>J.block b l (λeb=>by
      let⟨q1,q2⟩:=V b eb.symm
      exact hne q1 q2))
     (λb _ l=>by
      rw[<-ig D]at l;rcases j with j|j
      .rw[j]at l;exact .inl (V b l)
      .rw[j]at l;injection l with l
       exact .inr O)
     (λhs2 hg2=>⟨vs++us,by simpa using f,hk2,by simp[List.flatten_append];exact(T.append hru).mono hs2 hg2⟩)
    refine⟨_,w',_,v',by rw[hexec _ hr1];rfl,.inl rfl,?_,h2⟩
    subst D;exact .own _ _ _ _ _ hid (by simp[St.gh,St.dh,bf]) (λ_=>by simp[St.gh,St.dh,bf])
   split at p
   .rename_i ey;rw[ey]at ry;split at p
    .rename_i l;obtain⟨rfl,rfl⟩:=bh p;have:=R nid hn [] ((S.H nid).ab+1) (.slice none 0 0) [] ry.mA (World.ownsRow_nil w _ _ _) aK.nil t_ (Q7 _) (λb l=>by simp[Value.ownBlock]at l) (by simpa using l.2) (by simpa using l.1)
     simpa using this
    .cases p
   .rename_i id ab ey;rw[ey]at ry;split at p
    .rename_i F;split at p
     .rename_i e' k' es hc;split at p
      .rename_i l;obtain⟨rfl,rfl,N,B⟩:=l;obtain⟨rfl,rfl⟩:=bh p
       let⟨hN,hv⟩:=ry.iA (show(S.gh L).V id=ab from F)
       let⟨vs,k,hk,T⟩:=h.fZ hN hc
       have hLs:∃ad n c,L id= .slice ad n c:=by
        rcases k.2 with⟨hL,_⟩|⟨g,cap,Q,hL,_⟩
        .exact⟨_,_,_,hL⟩
        .exact⟨_,_,_,hL⟩
       let⟨ad0,n0,c0,hL0⟩:=hLs
       exact R id hN es (ab+1) (L id) vs hv k T hk O (λb l=>⟨by rw[hc];rfl,by rw[ig hL0]at l;exact l⟩) B N
      .cases p
     .cases p
    .cases p
   .cases p
  .cases p
 .cases p
def Hc(z:Array Va)(n:Nat):(Builtin.zeroCells z n).toList=(replicate n z.toList).flatten:=by
 unfold Builtin.zeroCells
 by_cases b:0<z.size
 .exact Cs z b n
 .have c:z.size=0:=O;have b:z=#[]:=qa7 c;subst b;simp
def Rv(h:Rel E S a w L){t e:TI}{y:Od}{y':aM}{i:TypeInfo}{d:Z PV}(ho:o.op= .call {callee:= .builtin .clear,args:=#[y],argTypes:=#[t]})(ht:P.underlying t=some (.slice e))(hi:P.info? e=some i)
  (hz:oL P e=some d) (hy:aL y=some y') (z:exec Γ nid S (.clear i.size d y')=some (x,wr)):Good P E S a w o x wr:=by
 have r:=h.dK hy;simp only[exec]at z;split at z
 case h_2=>cases z
 rename_i id ab k0 lo n e0;rw[e0]at r;split at z
 case isFalse=>cases z
 rename_i f;split at z
 case h_2=>cases z
 rename_i e1 k' es N;split at z
 case isFalse=>cases z
 rename_i hb;obtain⟨hk1,hk2,hk3,U⟩:=hb;subst hk2;subst hk1;obtain⟨rfl,rfl⟩:=bh z;obtain⟨hN,ad,c,hv,X⟩:=r.tt (show(S.gh L).V id=ab from f)
 have V:=h.Dm hN N X;obtain⟨a0,m0,c0,hL,q1,q2,q3,q4⟩:=X;have hL:L id= .slice a0 m0 c0:=hL;obtain⟨vs,s,hk,hr⟩:=h.fZ hN N;obtain⟨i',v,B,hv0,hs,I⟩:=w9 (P:=P) (w:=w) (M:=aH E S L) (G:=S.gh L) hz;rw[hi]at B;injection B with B
 subst B
 have hkz:∀u∈es.take lo++replicate n (d.map nz)++es.drop (lo+n),u.length=i.size:=by grind
 have hlz:(es.take lo++replicate n (d.map nz)++es.drop (lo+n)).length=es.length:=o_
 have hfl:(es.take lo++replicate n (d.map nz)++es.drop (lo+n)).flatten=es.flatten.take (lo*i.size)++(replicate n (d.map nz)).flatten++es.flatten.drop (lo*i.size+n*i.size):=by rw[List.flatten_append,List.flatten_append,ou i.size lo es hk,su i.size (lo+n) es hk,QM]
 have hrn:aK w (aH E S L) (S.gh L) (replicate n (d.map nz)).flatten (replicate n v.cells.toList).flatten:=qg I.nz n;have A:(replicate n v.cells.toList).flatten.length=n*i.size:=by rw[ib _ i.size (λu hu=>by rw[(List.mem_replicate.1 hu).2];simpa using hs)];simp
 by_cases hn0:n=0
 .subst hn0;have H:es.take lo++replicate 0 (d.map nz)++es.drop (lo+0)=es:=t_;rw[H]
  obtain⟨h2,k,W⟩:=h.nW (w':=w) hN ⟨ab,.row e1 i.size es⟩ (L id) (.inl ⟨f.symm,rfl,by rw[N];rfl⟩) rfl rfl rfl (Ql _)
   (λq F _=>rfl) (λq _ F=> .inl ⟨by rw[N];rfl,F⟩) (λk W=>⟨vs,s,hk,hr.mono k W⟩)
  refine⟨_,w,_,.tuple #[],?_,.inl rfl,.bP [] [] rfl (λj p u hp=>by simp at hp),h2⟩
  cases ad<;>simp[execOp,ho,resolve,invoke,builtin,Builtin.clear_,Qo ht,hv]
 .rcases s.2 with⟨D,h0⟩|⟨g,cap,b,D,hb1,hh,hnc,hcm,K,htake⟩
  .omega
  rw[D]at hL;injection hL with e2 e3 e4
  subst e2 e3 e4;rcases q4 with q4|q4
  .omega
  have J:∀u∈(replicate n v.cells.toList).flatten,u.oneCell'=true:=by
   intro u hu;obtain⟨l,hl,Q⟩:=List.mem_flatten.1 hu;rw[(List.mem_replicate.1 hl).2]at Q;obtain⟨q,F,rfl⟩:=List.mem_iff_getElem.1 Q;have hx:q<d.length:=by rw[<-I.1];exact F
   exact((I.2 q _ _ (Qv hx) (Qv F)).one (Qe.1 U _ (qar hx))).1
  have hcl:lo*i.size+n*i.size<=b.size:=by rw[K,<-QM];exact QT _ O
  have R:=qbp (P:=P) g (lo*i.size) e1 (replicate n v.cells.toList).flatten 0 b w hh (by rw[A];omega) J
  simp only[qbn,A]at R;have hz0:(Builtin.zeroCells v.cells n).toList=(replicate n v.cells.toList).flatten:=Hc _ _
  have T:(w.setRow g (b.toList.take (lo*i.size)++(replicate n v.cells.toList).flatten++b.toList.drop (lo*i.size+n*i.size)).toArray).ownsRow (dW E (L id)) e1 i.size (L id) (es.take lo++replicate n (d.map nz)++es.drop (lo+n)).length (vs.take (lo*i.size)++(replicate n v.cells.toList).flatten++vs.drop (lo*i.size+n*i.size)):=by
   have hvl:vs.length=es.length*i.size:=s.1;have hle:lo*i.size+n*i.size<=es.length*i.size:=by rw[<-QM];exact QT _ V
   rw[hlz]
   refine⟨by simp only[QZ,List.length_take,List.length_drop,A,hvl];omega,.inr ⟨g,cap,_,D,hb1,qaC w g b _ e1 _ hh,hnc,hcm,by
    rw[K]at hcl;simp only[List.size_toArray,QZ,List.length_take,List.length_drop,Q0,A,K]
    omega,?_⟩⟩
   grind [Ek]
  obtain⟨h2,k,W⟩:=h.nW (w':=w.setRow g (b.toList.take (lo*i.size)++(replicate n v.cells.toList).flatten++b.toList.drop (lo*i.size+n*i.size)).toArray) hN
   ⟨ab,.row e1 i.size (es.take lo++replicate n (d.map nz)++es.drop (lo+n))⟩ (L id) (.inl ⟨f.symm,rfl,by rw[N];rfl⟩) rfl rfl rfl t_
   (λq F hne=>qbq w g q _ (λek=>hne (by rw[N];rfl) (by rw[D,ek];rfl)))
   (λq _ F=> .inl ⟨by rw[N];rfl,F⟩)
   (λk W=>⟨_,T,hkz,by
    rw[hfl];have h5:=(((hr.take (lo*i.size)).append hrn).append (hr.drop (lo*i.size+n*i.size))).mono k W
    exact h5⟩)
  refine⟨_,_,_,.tuple #[],?_,.inl rfl,.bP [] [] rfl (λj p u hp=>by simp at hp),h2⟩
  have hv':a.eval y= .slice (some ⟨g,lo*i.size,none⟩) n c:=by rw[hv,q4];simp[add_mid]
  have hnn:∃m,n=m+1:=⟨n - 1,O⟩;obtain⟨m,rfl⟩:=hnn;simp[execOp,ho,resolve,invoke,builtin,Builtin.clear_,Qo ht,hv',zeroValue,typeInfo,hi,hv0,hz0,R]
def qe{P:Pr}(w:Wo)(s u ty b:TI)(g o e l:Nat)(a:Addr)(d f:Nat)(c:Array Va)(t:TI)(cs:Z Va)(size n:Nat)
  (y:P.underlying s=some (.slice b)) (hs:(P.info? b).map (·.size)=some size)
  (A:w.heap[g]?=some (.cells c t (0,0))) (z:n=Nat.min d e) (q:cs.length=n*size)
  (h:∀(j:Nat) (v:Va),cs[j]?=some v->w.cell? (a.add j)=some v) (k:o+cs.length<=c.size) (B:∀v∈cs,v.oneCell'=true):
  (Builtin.copy_ #[s,u] ty #[.slice (some ⟨g,o,none⟩) e l,.slice (some a) d f]).run P w=
   .ok (goInt n) (w.setRow g (c.toList.take o++cs++c.toList.drop (o+cs.length)).toArray):=by
 have r:=run_loadCells_list (P:=P) w a cs h;have m:=qbp P g o t cs 0 c w A (by simpa using k) B
 rw[q]at r
 cases p:P.info? b with
 |none=>simp[p]at hs
 |some i=>
  have hi:i.size=size:=by simpa[p]using hs
  simp[Builtin.copy_,Qo y,Builtin.lenOf,Builtin.firstCells,sizeOf,typeInfo,p,hi,<-z,r,m]
def Le(h:Rel E S a w L){neg:Bool}{t t2 e:TI}{y:Od}{j:aM}(i:o.op= .binOp (if neg then .neq else .eql) t y (.const (.slice none 0 0)) t2)(q:P.underlying t=some (.slice e))(p:aL y=some j)
  (f:exec Γ nid S (.so neg j)=some (x,wr)):Good P E S a w o x wr:=by
 have r:=h.dK p
 have b:∀(ad:Y Addr) (n c:Nat),a.eval y= .slice ad n c->(execOp a.eval o).run P w= .ok (.value (.bool (xor neg ad.isNone))) w:=by
  intro ad n c g;have m:a.eval (.const (.slice none 0 0))= .slice none 0 0:=rfl;have k:=run_equal_slice_nil (P:=P) w t e ad n c q;have l:∀op,(eqGuard op t y (.const (.slice none 0 0)) (.slice ad n c) (.slice none 0 0)).run P w= .ok () w:=by intro op;cases op<;>simp[eqGuard]
  cases neg
  .simp[QQ,QF]at i;simp only[execOp,i,g,m,Qu,l,QI,binOp,k,QP];simp
  .simp[Qp]at i;simp only[execOp,i,g,m,Qu,l,QI,binOp,k,QP];simp
 simp[exec]at f;split at f
 .rename_i z;rw[z]at r;obtain⟨rfl,rfl⟩:=bh f;exact Good.pure h (b none 0 0 r.mA) (by cases neg<;>exact .bool _)
 .split at f
  .rename_i d;obtain⟨rfl,rfl⟩:=bh f
   let⟨ad,c,g⟩:=h.J2 r d
   exact Good.pure h (b ad _ c g) (.dP _)
  .rename_i u us d;obtain⟨rfl,rfl⟩:=bh f;rcases h.Ez r d with⟨_,s⟩|⟨ad,c,vs,g,_⟩
   .cases s
   .exact Good.pure h (b (some ad) _ c g) (by cases neg<;>exact .bool _)
  .cases f
end
end
section
open Go.RowKit
section
variable{P:Pr}{E:En}{S:St}{a:Act}{w:Wo}{L:Nat->Va}{o:Oper}{x:PV}{wr:Y (Nat×dq)}{Γ:gL}{nid:Nat}
def Lx{t:TI}{fs:Array Field}{f g:Field}{r k:IntKind}{p q:Int}{s u:C}(y:P.underlying t=some (.struct fs))(m:fs.toList=[f,g])(A:P.underlying f.type=some (.int r))(z:P.underlying g.type=some .string)
  (B:f.offset=0) (D:g.offset=1) (c:f.name≠ "_") (j:g.name≠ "_") (i:P.stoodInHeld t=false) (d:Nat):
  (Op.equalIn (d+2) t (.agg #[.int k p,.string s]) (.agg #[.int k q,.string u])).run P w= .ok (decide (p=q)&&decide (s=u)) w:=by
 have e:P.fieldsOf t=fs:=by simp[Program.fieldsOf,y]
 have l:(isAgg f.type).run P w= .ok false w:=by simp[isAgg,Qo A]
 have hi1:(isAgg g.type).run P w= .ok false w:=by simp[isAgg,Qo z]
 have n:∀v u:Va,(part f.type #[v,u] 0).run P w= .ok v w:=λv u=>by simp[part,l]
 have p1:∀v u:Va,(part g.type #[v,u] 1).run P w= .ok u w:=λv u=>by simp[part,hi1]
 rw[run_equalIn_struct w (d+1) t _ _ (by rw[e];exact y) i,e,m]
 have q0:=run_equalIn_int (P:=P) w d f.type k r p q A;have q1:=run_equalIn_string (P:=P) w d g.type s u z;rw[toList_eq_iff]at q1
 by_cases b:p=q
 .subst b;simp[Op.eqFields,c,j,B,D,n,p1,q0,q1]
  by_cases h:s=u<;>simp[h]
 .have:(p==q)=false:=by simp[b]
  rw[this]at q0;simp[Op.eqFields,c,B,n,q0,b]
def PH(h:Rel E S a w L){neg:Bool}{y z:Od}{g f:aM}{t t2:TI}(d:o.op= .binOp (if neg then .neq else .eql) t y z t2)(r:P.underlying t=some .bool)
  (n:aL y=some g) (m:aL z=some f) (e:exec Γ nid S (.GK neg g f)=some (x,wr)):Good P E S a w o x wr:=by
 have j:=h.dK n;have i:=h.dK m;simp[exec]at e;split at e
 .rename_i p q A u;obtain⟨rfl,rfl⟩:=bh e;rw[A]at j;rw[u]at i;have k:=j.fp;have l:=i.fp;have s:(p==q)=decide (p=q):=by cases p<;>cases q<;>rfl
  have b:=run_equalIn_bool (P:=P) w 9999 t p q r;rw[s]at b;have c:∀op,(eqGuard op t y z (.bool p) (.bool q)).run P w= .ok () w:=by intro op;cases op<;>simp[eqGuard]
  refine Good.pure h (v:= .bool (xor neg (decide (p=q)))) ?_ (.bool _);cases neg
  .simp[QQ,QF]at d;simp[execOp,d,k,l,Qu,c,QI,binOp,Op.equal,Op.maxDepth,QP];rw[b];simp
  .simp[Qp]at d;simp[execOp,d,k,l,Qu,c,QI,binOp,Op.equal,Op.maxDepth,QP];rw[b];simp
 .cases e
def PI(h:Rel E S a w L){neg:Bool}{y z:Od}{D B:aM}{t t2:TI}{fs:Array Field}{f g:Field}{W:IntKind}(j:o.op= .binOp (if neg then .neq else .eql) t y z t2)(ht:P.underlying t=some (.struct fs))(A:fs.toList=[f,g])
  (hf:P.underlying f.type=some (.int W)) (hg:P.underlying g.type=some .string) (h0:f.offset=0) (h1:g.offset=1) (n:f.name≠ "_") (m:g.name≠ "_") (l:P.stoodInHeld t=false) (r:P.eqGuardType P.depth t=false)
  (hy:aL y=some D) (X:aL z=some B) (d:exec Γ nid S (.ox neg D B)=some (x,wr)):Good P E S a w o x wr:=by
 have H:=h.dK hy;have F:=h.dK X;simp[exec]at d;split at d
 .rename_i k p s k' q u e1 e2;split at d
  .rename_i hk;subst hk;obtain⟨rfl,rfl⟩:=bh d;rw[e1]at H;rw[e2]at F
   let⟨vs,I,e⟩:=H.lU
   let⟨us,hu,b⟩:=F.lU
   obtain⟨v1,K,rfl,V,e⟩:=e.cons_inv;obtain⟨v2,J,rfl,U,e⟩:=e.cons_inv;have:=e.lO;subst this;obtain⟨u1,Q,rfl,T,b⟩:=b.cons_inv;obtain⟨u2,N,rfl,R,b⟩:=b.cons_inv;have:=b.lO;subst this;have:=V.c4;subst this;have:=U.ky;subst this;have:=T.c4;subst this;have:=R.ky;subst this;have c:=Lx (P:=P) (w:=w) (k:=k) (p:=p) (q:=q) (s:=s) (u:=u) ht A hf hg h0 h1 n m l 9998
   have i:∀op,(eqGuard op t y z (.agg [.int k p,.string s].toArray) (.agg [.int k q,.string u].toArray)).run P w= .ok () w:=by intro op;cases op<;>simp[eqGuard,program,Sem.run,r]
   refine Good.pure h (v:= .bool (xor neg (decide (p=q)&&decide (s=u)))) ?_ (.bool _);cases neg
   .simp[QQ,QF]at j;simp[execOp,j,I,hu,Qu,i,QI,binOp,Op.equal,Op.maxDepth,QP];rw[c];simp
   .simp[Qp]at j;simp[execOp,j,I,hu,Qu,i,QI,binOp,Op.equal,Op.maxDepth,QP];rw[c];simp
  .cases d
 .cases d
def zD:∀(ks c:Z LK) (cs d:Z PV) (b:Bool),ij (ks++c) cs d=some b->
  ∃b1 e,ij ks (cs.take ks.length) (d.take ks.length)=some b1/\ij c (cs.drop ks.length) (d.drop ks.length)=some e/\b=(b1&&e)
 |[],c,cs,d,b,h=>⟨true,b,by simp[ij],by simpa using h,t_⟩
 |k::ks,c,cs,d,b,h=>by
  cases k<;>cases cs<;>cases d<;>simp[List.cons_append,ij]at h<;>try (cases h;done)
  all_goals rename_i x cs y d
  all_goals cases x<;>cases y<;>simp only[ij]at h<;>try (cases h;done)
  .split at h
   .rename_i i;simp only[Qi]at h;obtain⟨r,f,rfl⟩:=h;obtain⟨b1,e,h1,g,rfl⟩:=zD ks c cs d r f;refine⟨_,e,?_,g,(Bool.and_assoc _ _ _).symm⟩;simp[QV,List.take_succ_cons,ij,Qc i,h1,Qn]
   .cases h
  all_goals
   simp only[Qi]at h;obtain⟨r,f,rfl⟩:=h;obtain⟨b1,e,h1,g,rfl⟩:=zD ks c cs d r f;refine⟨_,e,?_,g,(Bool.and_assoc _ _ _).symm⟩;simp[QV,List.take_succ_cons,ij,h1,Qn]
def Fl:∀(ks:Z LK) (cs c:Z PV) (b:Bool),ij ks cs c=some b->cs.length=ks.length/\c.length=ks.length
 |[],cs,c,b,h=>by cases cs<;>cases c<;>simp[ij]at h<;>simp
 |k::ks,cs,c,b,h=>by
  cases k<;>cases cs<;>cases c<;>(try simp[ij]at h)<;>try (cases h;done)
  all_goals rename_i x cs y c
  all_goals cases x<;>cases y<;>simp only[ij]at h<;>try (cases h;done)
  .split at h
   .simp only[Qi]at h;obtain⟨r,d,rfl⟩:=h;have:=Fl ks cs c r d;simp[this.1,this.2]
   .cases h
  all_goals
   simp only[Qi]at h;obtain⟨r,d,rfl⟩:=h;have:=Fl ks cs c r d;simp[this.1,this.2]
def valOf(P:Pr)(t:TI)(vs:Z Va):Va:=
 match P.underlying t with
 |some (.struct _)=> .agg vs.toArray
 |_=>vs.headD undef
def GL{d:Nat}{t:TI}{ks:Z LK}(h:tQ P (d+1) t=some ks):
  (∃k,P.underlying t=some (.int k)/\ks=[.i])\/(P.underlying t=some .string/\ks=[.s])\/(P.underlying t=some .bool/\ks=[.b])\/∃fs,P.underlying t=some (.struct fs)/\P.stoodInHeld t=false/\HH P (tQ P d) fs.toList 0=some ks:=by
 grind [tQ]
def FO{t:TI}{d b:Nat}{ks:Z LK}{i:TypeInfo}{vs:Z Va}(h:tQ P d t=some ks)(hi:P.info? t=some i)(m:i.size=ks.length)(j:b+ks.length<=vs.length):
  (part t vs.toArray b).run P w= .ok (valOf P t ((vs.drop b).take ks.length)) w:=by
 cases d with
 |zero=>simp[tQ]at h
 |succ d=>
  have leaf:(∀fs,P.underlying t≠some (.struct fs))->(isAgg t).run P w= .ok false w->ks.length=1->(part t vs.toArray b).run P w= .ok (valOf P t ((vs.drop b).take ks.length)) w:=by
   intro l g n;have c:b<vs.length:=O
   have f:valOf P t ((vs.drop b).take ks.length)=vs[b]:=by
    unfold valOf;split
    .grind
    .rw[n,qbh c];rfl
   rw[f];simp[part,g,c]
  rcases GL h with⟨k,hu,rfl⟩|⟨hu,rfl⟩|⟨hu,rfl⟩|⟨fs,hu,_,_⟩
  .exact leaf (λfs e=>by rw[hu]at e;cases e) (by simp[isAgg,Qo hu]) rfl
  .exact leaf (λfs e=>by rw[hu]at e;cases e) (by simp[isAgg,Qo hu]) rfl
  .exact leaf (λfs e=>by rw[hu]at e;cases e) (by simp[isAgg,Qo hu]) rfl
  .have g:(isAgg t).run P w= .ok true w:=by simp[isAgg,Qo hu]
   have f:valOf P t ((vs.drop b).take ks.length)= .agg ((vs.drop b).take ks.length).toArray:=by unfold valOf;rw[hu]
   rw[f];simp[part,g,sizeOf,typeInfo,hi,m,List.extract]
def N0{M:Nat->Prop}{G:Gh}{d e:Nat}(D:∀(t:TI) (ks:Z LK) (cs l:Z PV) (b:Bool) (vs us:Z Va),tQ P d t=some ks->ij ks cs l=some b->aK w M G cs vs->aK w M G l us->(Op.equalIn e t (valOf P t vs) (valOf P t us)).run P w= .ok b w):
  ∀(fs:Z Field) (ks:Z LK) (c:Nat) (cs l:Z PV) (b:Bool) (vs us:Z Va),HH P (tQ P d) fs c=some ks->cs.length=c+ks.length->l.length=c+ks.length->ij ks (cs.drop c) (l.drop c)=some b->aK w M G cs vs->aK w M G l us->(Op.eqFields e vs.toArray us.toArray fs).run P w= .ok b w:=by
 intro fs
 induction fs with
 |nil=>
  intro ks c cs l b vs us h y u q r k;simp[HH,Qb]at h;subst h;rw[List.drop_eq_nil_of_le (by simpa using qau y),List.drop_eq_nil_of_le (by simpa using qau u)]at q
  simp[ij,Qb]at q;subst q;simp[Op.eqFields]
 |cons f fs B=>
  intro ks c cs l b vs us h y u q r k;rw[HH]at h;split at h
  .rename_i g
   let⟨g,j⟩:=g
   split at h
   .rename_i n i m hi;split at h
    .rename_i p;simp[Qi]at h;obtain⟨k2,s,rfl⟩:=h;rw[QZ]at y u;obtain⟨b1,F,h1,z,rfl⟩:=zD n k2 _ _ b q;rw[List.drop_drop]at z;rw[List.drop_drop]at z;have p1:(part f.type vs.toArray f.offset).run P w=_:=FO (w:=w) m hi p (by rw[j,r.1];omega)
     have A:(part f.type us.toArray f.offset).run P w=_:=FO (w:=w) m hi p (by rw[j,k.1];omega)
     have q1:=D f.type n _ _ b1 _ _ m h1 ((r.drop c).take n.length) ((k.drop c).take n.length);rw[<-j]at q1;have q2:=B k2 (c+n.length) cs l F vs us s O O z r k
     cases b1 with
     |false=>simp[Op.eqFields,g,p1,A,q1]
     |true=>simp[Op.eqFields,g,p1,A,q1,q2]
    .cases h
   .cases h
  .cases h
def I9{M:Nat->Prop}{G:Gh}:∀(d:Nat) (t:TI) (ks:Z LK) (e:Nat) (cs g:Z PV) (b:Bool) (vs us:Z Va),tQ P d t=some ks->d<=e->ij ks cs g=some b->aK w M G cs vs->aK w M G g us->(Op.equalIn e t (valOf P t vs) (valOf P t us)).run P w= .ok b w
 |0=>λt ks e cs g b vs us h=>by simp[tQ]at h
 |d+1=>by
  have V:=I9 (M:=M) (G:=G) d;intro t ks e cs g b vs us h he f J n
  .obtain⟨e,rfl⟩:∃e',e=e'+1:=⟨e - 1,O⟩
   let⟨A,z⟩:=Fl _ _ _ _ f
   have one:∀{x:LK},ks=[x]->∃p q v u,cs=[p]/\g=[q]/\vs=[v]/\us=[u]/\aJ w M G p v/\aJ w M G q u:=by intro x T;subst T;have H:∃p,cs=[p]:=List.length_eq_one_iff.1 A;have F:∃p,g=[p]:=List.length_eq_one_iff.1 z;obtain⟨p,rfl⟩:=H;obtain⟨q,rfl⟩:=F;obtain⟨v,K,rfl,m,j⟩:=J.cons_inv;obtain⟨u,N,rfl,R,Q⟩:=n.cons_inv;have e1:=j.lO;have e2:=Q.lO;subst e1 e2;exact⟨p,q,v,u,rfl,rfl,rfl,rfl,m,R⟩
   have c:∀l:Z Va,(∀fs,P.underlying t≠some (.struct fs))->valOf P t l=l.headD undef:=by
    intro l y;unfold valOf;split
    .rename_i fs D;exact absurd D (y fs)
    .rfl
   rcases GL h with⟨k,hu,hk⟩|⟨hu,hk⟩|⟨hu,hk⟩|⟨fs,hu,s,U⟩
   .obtain⟨p,q,v,u,rfl,rfl,rfl,rfl,m,j⟩:=one hk;subst hk;rw[c _ (λfs e=>by rw[hu]at e;cases e),c _ (λfs e=>by rw[hu]at e;cases e)]
    cases p<;>cases q<;>simp only[ij]at f<;>try (cases f;done)
    split at f
    .rename_i B;subst B;simp[Qn,Qb,QU]at f;subst f;have:=m.c4;subst this;have:=j.c4;subst this;rename_i k1 i b1;exact run_equalIn_int w e t _ k i b1 hu
    .cases f
   .obtain⟨p,q,v,u,rfl,rfl,rfl,rfl,m,j⟩:=one hk;subst hk;rw[c _ (λfs e=>by rw[hu]at e;cases e),c _ (λfs e=>by rw[hu]at e;cases e)]
    cases p<;>cases q<;>simp only[ij]at f<;>try (cases f;done)
    simp only[Qn,Qb,QU]at f;subst f;have:=m.ky;subst this;have:=j.ky;subst this;rename_i i b1;have:=run_equalIn_string (P:=P) w e t i b1 hu;rw[toList_eq_iff]at this;exact this
   .obtain⟨p,q,v,u,rfl,rfl,rfl,rfl,m,j⟩:=one hk;subst hk;rw[c _ (λfs e=>by rw[hu]at e;cases e),c _ (λfs e=>by rw[hu]at e;cases e)]
    cases p<;>cases q<;>simp only[ij]at f<;>try (cases f;done)
    simp only[Qn,Qb,QU]at f;subst f;have:=m.fp;subst this;have:=j.fp;subst this;rename_i i b1;have:=run_equalIn_bool (P:=P) w e t i b1 hu;rw[show(i==b1)=decide (i=b1)by cases i<;>cases b1<;>rfl]at this
    exact this
   .have I:∀l:Z Va,valOf P t l= .agg l.toArray:=λl=>by unfold valOf;rw[hu]
    have r:P.fieldsOf t=fs:=by simp[Program.fieldsOf,hu]
    rw[I,I,run_equalIn_struct w e t _ _ (by rw[r];exact hu) s,r]
    exact N0 (λt ks cs g b vs us H F X W=>V t ks e cs g b vs us H O F X W) fs.toList ks 0 cs g b vs us U O O (by simpa using f) J n
def IZ(h:Rel E S a w L){neg:Bool}{ks:Z LK}{y z:Od}{m k:aM}{t t2:TI}{fs:Array Field}(g:o.op= .binOp (if neg then .neq else .eql) t y z t2)(u:P.underlying t=some (.struct fs))(B:tQ P 64 t=some ks)
  (j:P.eqGuardType P.depth t=false) (s:aL y=some m) (r:aL z=some k) (e:exec Γ nid S (.CY neg ks m k)=some (x,wr)):Good P E S a w o x wr:=by
 have p:=h.dK s;have n:=h.dK r;simp[exec]at e;split at e
 .rename_i cs J I H;simp only[Qi]at e;obtain⟨b,D,e⟩:=e;injection e with h1 F
  subst h1 F;rw[I]at p;rw[H]at n
  let⟨vs,q,A⟩:=p.lU
  let⟨us,hu,i⟩:=n.lU
  have d:∀l:Z Va,valOf P t l= .agg l.toArray:=λl=>by unfold valOf;rw[u]
  have c:=I9 (P:=P) (w:=w) 64 t ks 10000 cs J b vs us B O D A i;rw[d,d]at c
  have f:∀op,(eqGuard op t y z (.agg vs.toArray) (.agg us.toArray)).run P w= .ok () w:=by intro op;cases op<;>simp[eqGuard,program,Sem.run,j]
  refine Good.pure h (v:= .bool (xor neg b)) ?_ (.bool _);cases neg
  .simp[QQ,QF]at g;simp[execOp,g,q,hu,Qu,f,QI,binOp,Op.equal,Op.maxDepth,QP];rw[c];simp
  .simp[Qp]at g;simp[execOp,g,q,hu,Qu,f,QI,binOp,Op.equal,Op.maxDepth,QP];rw[c];simp
 .cases e
def aJ.closed{M M':Nat->Prop}{G G':Gh}{y:PV}{v:Va}(s:y.closed=true)(n:∀b,M' b->M b)(h:aJ w M G y v):aJ w M' G' y v:=by
 have hs:bO w w M M':=(bO.of λ_ q=>λl=>q (n _ l))
 cases h with
 |any|undef|ff|agg|bP|ptr|own|ct|view=>simp[PV.closed]at s
 |int=>exact .int _ _
 |bool=>exact .bool _
 |dP=>first|exact .dP _|simp[PV.closed]at s
 |str=>exact .str _
 |fD=>exact .fD
 |cz=>exact .cz
 |aQ f cs vs m h=>
  cases cs with
  |nil=>exact .aQ f [] vs m (λi x v z _=>by simp at z)
  |cons=>simp[PV.closed]at s
 |ref cs ad vs m d h=>exact .ref cs ad vs m (λi u j=>⟨(d i u j).1,λl=>(d i u j).2 (n _ l)⟩) (λi p u g j=>(h i p u g j).mono hs (Gh.le.refl _))
 |sl es ad c k vs hk m d h B q=>exact .sl es ad c k vs hk m (λi u j=>⟨(d i u j).1,λl=>(d i u j).2 (n _ l)⟩) (λi p u g j=>(h i p u g j).mono hs (Gh.le.refl _)) B q
 |slnil=>exact .slnil
 |qq=>exact .qq
 |rW T v=>exact .rW T v
 |fF T x v g h=>exact .fF T x v g (h.plain g)
 |gl ks us b es H D t hk A h1 F=>exact .gl ks us b es H D (λl=>t (n _ l)) hk A (λi p e g r=>(h1 i p e g r).mono hs (Gh.le.refl _)) (λi p e g r=>(F i p e g r).mono hs (Gh.le.refl _))
def aK.closed{M M':Nat->Prop}{G G':Gh}{c:Z PV}{vs:Z Va}(f:c.all PV.closed=true)(g:∀b,M' b->M b)(h:aK w M G c vs):aK w M' G' c vs:=
 ⟨h.1,λi y v d e=>(h.2 i y v d e).closed (Qe.1 f y (QG d)) g⟩
def aJ.aZ{M M':Nat->Prop}{G G':Gh}{y:PV}{v:Va}(d:y.aZ=true)(e:∀b,M' b->M b)(h:aJ w M G y v):aJ w M' G' y v:=by
 cases y with
 |agg cs=>cases h with|agg _ vs c h=>have:=aK.closed (G':=G') (by simpa[PV.aZ]using d) e ⟨c,h⟩;exact .agg cs vs this.1 this.2
 |bP cs=>cases h with|bP _ vs c h=>have:=aK.closed (G':=G') (by simpa[PV.aZ]using d) e ⟨c,h⟩;exact .bP cs vs this.1 this.2
 |aQ f cs=>cases h with|aQ _ _ vs c h=>have:=aK.closed (G':=G') (by simpa[PV.aZ]using d) e ⟨c,h⟩;exact .aQ f cs vs this.1 this.2
 |_=>exact h.closed (by simpa[PV.aZ]using d) e
def aJ.oW{M M':Nat->Prop}{G G':Gh}{y:PV}{v:Va}(d:y.oW=true)(e:∀b,M' b->M b)(h:aJ w M G y v):aJ w M' G' y v:=by
 cases y with
 |bP cs=>cases h with|bP _ vs g h=>exact .bP cs vs g λi y v c f=>(h i y v c f).aZ (Qe.1 (show cs.all PV.aZ=true from d) y (QG c)) e
 |_=>exact h.aZ d e
def aJ.kJ{w':Wo}{M M':Nat->Prop}{G G':Gh}{y:PV}{v:Va}(b:y.kJ=true)(h:aJ w M G y v):aJ w' M' G' y v:=by
 have go:∀{cs:Z PV} {vs:Z Va},cs.all PV.plain=true->aK w M G cs vs->aK w' M' G' cs vs:=λb h=>⟨h.1,λi y v c d=>(h.2 i y v c d).plain (Qe.1 b y (QG c))⟩
 cases y with
 |agg cs=>cases h with|agg _ vs e h=>have:=go (by simpa[PV.kJ]using b) ⟨e,h⟩;exact .agg cs vs this.1 this.2
 |_=>exact h.plain (by simpa[PV.kJ]using b)
def aJ.nZ{w':Wo}{M M':Nat->Prop}{G G':Gh}{y:PV}{v:Va}(c:y.nZ=true)(h:aJ w M G y v):aJ w' M' G' y v:=by
 cases y with
 |bP cs=>cases h with|bP _ vs e h=>exact .bP cs vs e λi y v b d=>(h i y v b d).kJ (Qe.1 (show cs.all PV.kJ=true from c) y (QG b))
 |_=>exact h.kJ c
def aK.plain{w':Wo}{M M':Nat->Prop}{G G':Gh}{b:Z PV}{vs:Z Va}(e:b.all PV.plain=true)(h:aK w M G b vs):aK w' M' G' b vs:=
 ⟨h.1,λi y v c d=>(h.2 i y v c d).plain (Qe.1 e y (QG c))⟩
def qj{H:Nat->dq}{ex:Y Nat}{M M':Nat->Prop}{G:Gh}{y:PV}{v:Va}(d:y.closed=true)(e:∀b,M' b->M b)(h:aJ w M G y v)(n:Nat):aJ w M' cr (fz H ex n y) v:=by
 have c:y= .cz\/fz H ex n y=y:=by
  cases y with
  |aQ f cs=>
   cases cs with
   |nil=>right;cases n<;>simp[fz,PV.closed]
   |cons=>simp[PV.closed]at d
  |_=>first|exact .inl rfl|(right;cases n<;>simp_all [fz,PV.closed])|(simp[PV.closed]at d;done)
 rcases c with rfl|c
 .have:=h.mA;subst this;cases n<;>exact .slnil
 .rw[c];exact h.closed d e
def HG{H:Nat->dq}{ex:Y Nat}{M M':Nat->Prop}{G:Gh}{y:PV}{v:Va}(d:y.aZ=true)(j:∀b,M' b->M b)(h:aJ w M G y v)(n:Nat):aJ w M' cr (fz H ex (n+1) y) v:=by
 have go:∀{cs:Z PV} {vs:Z Va},cs.all PV.closed=true->aK w M G cs vs->aK w M' cr (cs.map (fz H ex n)) vs:=λd c=>
  ⟨by simp[c.1],λi p u g k=>by
   rw[Qt,Qi]at g;obtain⟨q,e,rfl⟩:=g
   exact qj (Qe.1 d q (QG e)) j (c.2 i q u e k) n⟩
 cases y with
 |agg cs=>obtain⟨vs,rfl,c⟩:=h.lU;have:=go (by simpa[PV.aZ]using d) c;simp[fz];exact .agg _ _ this.1 this.2
 |bP cs=>obtain⟨vs,rfl,c⟩:=h.zI;have:=go (by simpa[PV.aZ]using d) c;simp[fz];exact .bP _ _ this.1 this.2
 |aQ f cs=>obtain⟨vs,rfl,c⟩:=h.oX;have:=go (by simpa[PV.aZ]using d) c;simp[fz];exact .aQ _ _ _ this.1 this.2
 |_=>exact qj (by simpa[PV.aZ]using d) j h (n+1)
theorem Rel.fz(h:Rel E S a w L){ex:Y Nat}{M:Nat->Prop}(H:∀b,M b->aH E S L b)(I:∀id b,id<S.N->(S.H id).c.live=true->some id≠ex->br (L id)=some b->¬M b):
  ∀(n:Nat) {y:PV} {v:Va},aJ w (aH E S L) (S.gh L) y v->aJ w M cr (fz S.H ex n y) v
 |0,y,v,r=>by
  cases s:y.closed with
  |true=>exact qj s H r 0
  |false=>
   have:TQ.fz S.H ex 0 y= .any:=by cases y<;>simp_all [TQ.fz,PV.closed]
   rw[this];exact .any _
 |n+1,y,v,r=>by
  have X:=λ{y:PV} {v:Va} (r:aJ w (aH E S L) (S.gh L) y v)=>h.fz H I n r
  have l:∀{cs:Z PV} {vs:Z Va},aK w (aH E S L) (S.gh L) cs vs->aK w M cr (cs.map (TQ.fz S.H ex n)) vs:=λj=>
   ⟨by simp[j.1],λi p u V A=>by
    rw[Qt,Qi]at V;obtain⟨q,K,rfl⟩:=V
    exact X (j.2 i q u K A)⟩
  cases y with
  |own id ab=>
   simp[TQ.fz];split
   .exact .any _
   .rename_i m;have c:some id≠ex/\(S.H id).ab=ab:=⟨λe=>m (.inl e),qbs.1 λe=>m (.inr e)⟩
    split
    .rename_i e k es s
     let⟨F,J⟩:=r.iA (show(S.gh L).V id=ab from c.2)
     let⟨vs,t,hk,j⟩:=h.fZ F s
     rw[J,show(S.gh L).L id=L id from rfl]
     have Q:(es.map λe=>e.map (TQ.fz S.H ex n)).flatten=es.flatten.map (TQ.fz S.H ex n):=by rw[List.map_flatten]
     rcases t.2 with⟨z,h0⟩|⟨g,cap,U,z,_,W,N,R,_⟩
     .have:es=[]:=qak h0;subst this;rw[z];exact .slnil
     .rw[z];have d:=l j;rw[<-Q]at d;have D:es.length=(es.map λe=>e.map (TQ.fz S.H ex n)).length:=t_
      rw[D];refine .sl _ _ _ k vs (λu A=> ?_) d.1 (λi u A=>⟨t.cells (g:=g) (by rw[z];rfl) i u A,I id g F (by rw[s];rfl) c.1 (by rw[z];rfl)⟩) d.2 (by simpa using N) R
      obtain⟨q,K,rfl⟩:=Qs.1 A;simpa using hk q K
    .exact .any _
  |ptr id ab off=>
   simp[TQ.fz];split
   .exact .any _
   .rename_i m;have c:some id≠ex/\(S.H id).ab=ab:=⟨λe=>m (.inl e),qbs.1 λe=>m (.inr e)⟩
    split
    .rename_i cs s
     let⟨F,_⟩:=r.lL (show(S.gh L).V id=ab from c.2)
     let⟨b,J,z⟩:=h.nY r c.2 s
     let⟨b',U,T,B,W,j,_⟩:=h.mT F s
     rw[z]at B;simp[Value.pointer.injEq,Qb,qaL]at B;obtain⟨rfl,_⟩:=B;rw[J];have d:=(l j).drop off;exact .ref _ _ _ d.1 (λi u A=>⟨by rw[add_mid];exact kS W (et A),I id b F (by rw[s];rfl) c.1 (by rw[z];rfl)⟩) d.2
    .exact .any _
  |agg cs=>obtain⟨vs,rfl,j⟩:=r.lU;have:=l j;exact .agg _ _ this.1 this.2
  |bP cs=>obtain⟨vs,rfl,j⟩:=r.zI;have:=l j;exact .bP _ _ this.1 this.2
  |aQ f cs=>obtain⟨vs,rfl,j⟩:=r.oX;have:=l j;exact .aQ _ _ _ this.1 this.2
  |cz=>exact qj rfl H r (n+1)
  |_=>
   simp only[TQ.fz];split
   .rename_i s;exact r.closed s H
   .exact .any _
def Rh(h:Rel E S a w L){b:Nat}(c:aH E S L b):b<w.heap.size:=by
 rcases c with⟨id,d,e,c⟩|c
 .exact((h.obj id d).pO e c).1
 .exact h.NW c
def zO(h:Rel E S a w L){b:Nat}(c:aH E S L b):¬gb b:=by
 rcases c with⟨id,d,e,c⟩|c
 .rcases((h.obj id d).pO e c).2 with h1|h1
  .exact(E.vK b h1).2
  .intro f;have:=E.hX.gi.lt f;omega
 .exact h.Wf c
def Rel.gi(h:Rel E S a w L):GI w:=E.hX.gi.bY λb c=>h.fr.block b (E.hX.gi.lt c) λe=>(E.vK b e).2 c
def Rel.I4(h:Rel E S a w L){X:Nat->Prop}(hX:∀q,X q->aH E S L q):mU w X:=⟨λq b=>Rh h (hX q b),λq b=>zO h (hX q b),h.gi⟩
def Rel.x0(h:Rel E S a w L):mU w λ_=>False:= .nil h.gi
theorem aK.fz(h:Rel E S a w L){ex:Y Nat}{M:Nat->Prop}(k:∀b,M b->aH E S L b)(f:∀id b,id<S.N->(S.H id).c.live=true->some id≠ex->br (L id)=some b->¬M b){c:Z PV}{vs:Z Va}
  (d:aK w (aH E S L) (S.gh L) c vs):aK w M cr (c.map (TQ.fz S.H ex 9)) vs:=
 ⟨by simp[d.1],λi p u e g=>by
  rw[Qt,Qi]at e;obtain⟨q,j,rfl⟩:=e
  exact h.fz k f 9 (d.2 i q u j g)⟩
def aK.aZ{M M':Nat->Prop}{G G':Gh}{c:Z PV}{vs:Z Va}(f:c.all PV.aZ=true)(g:∀b,M' b->M b)(h:aK w M G c vs):aK w M' G' c vs:=
 ⟨h.1,λi y v d e=>(h.2 i y v d e).aZ (Qe.1 f y (QG d)) g⟩
def aK.ss{H:Nat->dq}{ex:Y Nat}{M M':Nat->Prop}{G:Gh}{c:Z PV}{vs:Z Va}(g:c.all PV.aZ=true)(j:∀b,M' b->M b)(h:aK w M G c vs):aK w M' cr (c.map (TQ.fz H ex 9)) vs:=
 ⟨by simp[h.1],λi p u e f=>by
  rw[Qt,Qi]at e;obtain⟨q,d,rfl⟩:=e
  exact HG (Qe.1 g q (QG d)) j (h.2 i q u d f) 8⟩
def zg{es:Z (Z PV)}(h:ux es=true):es.flatten.all PV.closed=true:=by
 refine Qe.2 λy c=> ?_
 let⟨u,hu,b⟩:=List.mem_flatten.1 c
 exact Qe.1 (Qe.1 h u hu) y b
def ze{es:Z (Z PV)}(h:Co es=true):es.flatten.all PV.plain=true:=by
 refine Qe.2 λy c=> ?_
 let⟨u,hu,b⟩:=List.mem_flatten.1 c
 exact Qe.1 (Qe.1 h u hu) y b
def xm{w:Wo}{b:Nat}{e k:Nat}{v:Va}{n:Nat}{xs:Z Va}(h:w.ownsRow b e k v n xs):w.ownsRow 0 e k v n xs:=by
 refine⟨h.1,?_⟩;rcases h.2 with h1|⟨g,cap,c,h1,_,d⟩
 .exact .inl h1
 .grind
def Js{w w':Wo}{b:Nat}{e k:Nat}{v:Va}{n d:Nat}{xs ys:Z Va}(h:w.ownsRow b e k v n xs)(i:w'.ownsRow 0 e k v d ys):w'.ownsRow b e k v d ys:=by
 refine⟨i.1,?_⟩;rcases i.2 with h1|⟨g,cap,c,h1,_,m⟩
 .exact .inl h1
 .refine .inr ⟨g,cap,c,h1,?_,m⟩;rcases h.2 with⟨f,_⟩|⟨q,l,j,f,p,_⟩
  .rw[f]at h1;cases h1
  .grind
def BD{w:Wo}{b:Nat}{e k:Nat}{v:Va}{n:Nat}{xs:Z Va}(h:w.ownsRow b e k v n xs):∃ad n c,v= .slice ad n c:=by
 rcases h.2 with⟨rfl,_⟩|⟨g,cap,d,rfl,_⟩
 .exact⟨_,_,_,rfl⟩
 .exact⟨_,_,_,rfl⟩
def yr{E:En}{w w':Wo}{b:Nat}{e k:Nat}{v u:Va}{n i:Nat}{xs ys:Z Va}(h:w.ownsRow (dW E v) e k v n xs)(l:w'.ownsRow 0 e k u i ys)(hs:E.w0.heap.size<=b)
  (q:∀g,br u=some g->br v=some g\/b<=g):w'.ownsRow (dW E u) e k u i ys:=by
 refine⟨l.1,?_⟩;rcases l.2 with h1|⟨g,cap,f,h1,_,r⟩
 .exact .inl h1
 .refine .inr ⟨g,cap,f,h1,?_,r⟩;have c:br u=some g:=by rw[h1];rfl
  rcases q g c with d|d
  .rw[vr (v:=u) (v':=v) (by rw[c,d])]
   rcases h.2 with⟨j,_⟩|⟨t,p,m,j,s,_⟩
   .rw[j]at d;cases d
   .grind [br]
  .grind [El]
def KU(h:Rel E S a w L){id:Nat}(s:id<S.N)(f:(S.H id).c.live=true){e:Z PV}{l:Z Va}(m:aK w (aH E S L) (S.gh L) e l):
  ∃X:Nat->Prop,mU w X/\(∀b,br (L id)=some b->¬X b/\¬gb b)/\(∀q,Mv (L id) X q->aH E S L q)/\aK w (Mv (L id) X) cr (e.map (TQ.fz S.H (some id) 9)) l/\(e.all PV.aZ=true->∀q,aH E S L q->Mv (L id) X q):=by
 have g:∀b,br (L id)=some b->aH E S L b:=λb i=> .inl ⟨id,s,f,i⟩
 by_cases k:e.all PV.aZ=true
 .have d:∀q,Mv (L id) (λq=>aH E S L q/\br (L id)≠some q) q->aH E S L q:=by
   rintro q (c|c)
   .exact g q c
   .exact c.1
  refine⟨λq=>aH E S L q/\br (L id)≠some q,h.I4 λq c=>c.1,λb i=>⟨λc=>c.2 i,zO h (g b i)⟩,d,m.ss k d,λ_ q c=> ?_⟩
  by_cases i:br (L id)=some q
  .exact .inl i
  .exact .inr ⟨c,i⟩
 .have d:∀q,Mv (L id) (λ_=>False) q->aH E S L q:=by
   rintro q (c|c)
   .exact g q c
   .exact c.elim
  refine⟨λ_=>False,h.x0,λb i=>⟨λc=>c,zO h (g b i)⟩,d,?_,λc=>absurd c k⟩
  refine m.fz h d (λj q t p n r c=> ?_)
  rcases c with c|c
  .exact n (by rw[h.apart j id q t s p f r c])
  .exact c
theorem Tt{f:FI}{m:Model}{e k:Nat}(U:∀es d r g,m.rm es d=some (r,g)->MV P f e k es d r g)(h:Rel E S a w L){d:Z PV}{vs:Z Va}(hr:aK w (aH E S L) (S.gh L) d vs)(i:tV m e k S d=some (x,wr)):
  Calls P f vs.toArray w (λen w'=>∃v L',en= .returned v/\Rel E (S.dh wr) a w' L'/\aJ w' (aH E (S.dh wr) L') ((S.dh wr).gh L') x v):=by
 unfold tV at i;split at i
 case h_2=>cases i
 rename_i id ab N;split at i
 case isFalse=>cases i
 rename_i s;split at i
 case h_2=>cases i
 rename_i e' k' es hc;split at i
 case isFalse=>cases i
 rename_i hek;obtain⟨rfl,rfl,hok⟩:=hek;split at i
 case h_2=>cases i
 rename_i r g hmm;split at i
 case isFalse=>cases i
 rename_i n;obtain⟨rfl,rfl⟩:=bh i;simp only[Qa,Qx]at n;obtain⟨⟨hc1,hc2⟩,hc3⟩:=n;obtain⟨v0,W,rfl,r0,hr'⟩:=hr.cons_inv;obtain⟨hN,A⟩:=r0.iA (show(S.gh L).V id=ab from s)
 have A:v0=L id:=A;subst A;have b:(S.H id).c.live=true:=by rw[hc];rfl
 obtain⟨us,z,hk,hru⟩:=h.fZ hN hc;obtain⟨X,hX,hXn,R,K,Q⟩:=KU h hN b hr';refine(U es _ r g hmm w X hX (L id) W hXn ⟨us,xm z,hk,hru.closed (zg hok) R⟩ K).mono ?_;rintro en w' ⟨u,rfl,y,⟨us',F,hk',t⟩,l⟩
 have V:∀q,aH E {S with H:=bd S.H id ⟨ab,.row e' k' g⟩} (bd L id (L id)) q->aH E S L q:=by
  rintro q (⟨j,hj,I,J⟩|B)
  .simp only at hj I;have:bd L id (L id) j=L j:=by by_cases p:j=id<;>simp[bd,p]
   rw[this]at J
   by_cases p:j=id
   .subst p;exact .inl ⟨j,hj,b,J⟩
   .rw[bo _ _ p]at I;exact .inl ⟨j,hj,I,J⟩
  .exact .inr B
 have T:N.all PV.aZ=true->bO w' w' (Mv (L id) X) (aH E {S with H:=bd S.H id ⟨ab,.row e' k' g⟩} (bd L id (L id))):=λc=>(bO.of λ_ hnm=>λB=>hnm (Q c _ (V _ B)))
 obtain⟨h2,hs2,hg2⟩:=h.nW (w':=w') (hdr:=l.drawn) hN ⟨ab,.row e' k' g⟩ (L id) (.inl ⟨s.symm,rfl,b⟩) l.os l.tape l.output l.size
  (λq B hne=>l.block q B (hne b)) (λq _ B=> .inl ⟨b,B⟩)
  (λhs2 hg2=>⟨us',Js z F,hk',by
   rcases hc3 with D|c
   .exact t.plain (ze D)
   .exact t.mono (T c) (cr.le _)⟩)
 refine⟨u,_,rfl,h2,?_⟩;rcases hc1 with D|c
 .exact y.nZ D
 .exact y.mono (T c.1) (cr.le _)
theorem Tr{f:FI}{m:Model}{e k:Nat}(hrow:∀es d r s,m.rm es d=some (r,s)->FD P f e k es d s)(h:Rel E S a w L){d:Z PV}{vs:Z Va}(hr:aK w (aH E S L) (S.gh L) d vs)(i:tU m e k S d=some (x,wr)):
  Calls P f vs.toArray w (λen w'=>∃v L',en= .returned v/\Rel E (S.dh wr) a w' L'/\aJ w' (aH E (S.dh wr) L') ((S.dh wr).gh L') x v):=by
 unfold tU at i;split at i
 case h_2=>cases i
 rename_i id ab U;split at i
 case isFalse=>cases i
 rename_i V;split at i
 case h_2=>cases i
 rename_i e' k' es hc;split at i
 case isFalse=>cases i
 rename_i hek;obtain⟨rfl,rfl,hok⟩:=hek;split at i
 case h_2=>cases i
 rename_i r s hmm;split at i
 case isFalse=>cases i
 rename_i A;obtain⟨rfl,rfl⟩:=bh i;simp only[Qa,Qx]at A;obtain⟨hc2,hc3⟩:=A;obtain⟨v0,vs',rfl,r0,hr'⟩:=hr.cons_inv;obtain⟨T,K⟩:=r0.iA (show(S.gh L).V id=ab from V)
 have K:v0=L id:=K;subst K;have b:(S.H id).c.live=true:=by rw[hc];rfl
 obtain⟨us,y,hk,hru⟩:=h.fZ T hc;obtain⟨X,hX,hXn,hsub,R,I⟩:=KU h T b hr';refine(hrow es _ r s hmm w X hX (L id) vs' hXn ⟨us,xm y,hk,hru.closed (zg hok) hsub⟩ R).mono ?_;rintro en w' ⟨u,rfl,⟨us',t,hk',J⟩,W,p⟩
 have hEX:∀q,E.X q->br (L id)≠some q:=by
  intro q g F
  by_cases hH:E.H0 q
  .exact(h.an.2.2 q hH).2.2 id T b F
  rcases y.2 with⟨h4,_⟩|⟨g',cap',cur',h4,h5,_⟩
  .rw[h4]at F;cases F
  .have D:br (L id)=some g':=by rw[h4];rfl
   rw[F]at D;injection D with D
   subst D;rcases AJ F h5 with⟨h6,h7⟩|h6
   .exact E.Gy h6 q h7 g
   .have:=E.hX.lt q ⟨g,hH⟩;omega
 have hst:U.all PV.aZ=true->bO w' w' (Mv u X) (aH E {S with H:=bd S.H id ⟨ab+1,.row e' k' s⟩} (bd L id u)):=by
  intro l;refine(bO.of λ_ hnm=>λg=>hnm ?_)
  rcases g with⟨j,hj,B,z⟩|g
  .simp only at hj B
   by_cases Q:j=id
   .subst Q;rw[bf]at z;exact .inl z
   .rw[bo _ _ Q]at B z;rcases I l _ (.inl ⟨j,hj,B,z⟩)with g|g
    .exact absurd (h.apart j id _ hj T B b z g) Q
    .exact .inr g
  .rcases I l _ (.inr g)with N|N
   .exact absurd N (hEX _ g)
   .exact .inr N
 obtain⟨h2,hs2,hg2⟩:=h.nW (w':=w') (hdr:=p.drawn) T ⟨ab+1,.row e' k' s⟩ u (.inr (by show(S.H id).ab<ab+1;omega)) p.os p.tape p.output p.size
  (λq g hne=>p.block q g (hne b)) (λq _ g=>(W q g).imp (λF=>⟨b,F⟩) (λF=>F))
  (λhs2 hg2=>⟨us',yr y t h.fr.size W,hk',by
   rcases hc3 with hpl|l
   .exact J.plain (ze hpl)
   .exact J.mono (hst l) (cr.le _)⟩)
 let⟨ad,n,c,hu⟩:=BD t
 refine⟨u,_,rfl,h2,?_⟩;subst hu;exact .own _ _ _ _ _ T (by simp[St.gh,St.dh,bf]) (λ_=>by simp[St.gh,St.dh,bf])
theorem Tg{f:FI}{m:Model}{e k:Nat}(J:∀b r p,m.rm [] b=some (r,p)->Kr P f b e k p)(h:Rel E S a w L)(hn:nid<S.N){b:Z PV}{vs:Z Va}(hr:aK w (aH E S L) (S.gh L) b vs)(F:Ao m e k nid S b=some (x,wr)):
  Calls P f vs.toArray w (λen w'=>∃v L',en= .returned v/\Rel E (S.dh wr) a w' L'/\aJ w' (aH E (S.dh wr) L') ((S.dh wr).gh L') x v):=by
 unfold Ao at F;split at F
 case h_2=>cases F
 rename_i r p W;split at F
 case isFalse=>cases F
 rename_i y;obtain⟨rfl,rfl⟩:=bh F;simp only[Qa,Qx]at y;obtain⟨hc2,hc3⟩:=y
 have Q:∃X:Nat->Prop,mU w X/\aK w X cr (b.map (TQ.fz S.H none 9)) vs/\(b.all PV.aZ=true->∀q,aH E S L q->X q):=by
  by_cases d:b.all PV.aZ=true
  .exact⟨aH E S L,h.I4 λq i=>i,hr.ss d (λq i=>i),λ_ q i=>i⟩
  .exact⟨λ_=>False,h.x0,hr.fz h (λq i=>i.elim) (λj q hj z hne t i=>i),λi=>absurd i d⟩
 obtain⟨X,hX,D,A⟩:=Q;refine(J _ r p W w X hX vs D).mono ?_;rintro en w' ⟨u,rfl,⟨N,s,hk',B⟩,I,l⟩
 have R:b.all PV.aZ=true->bO w' w' (Mv u X) (aH E {S with H:=bd S.H nid ⟨(S.H nid).ab+1,.row e k p⟩} (bd L nid u)):=by
  intro d;refine(bO.of λ_ V=>λi=>V ?_)
  rcases i with⟨j,hj,z,t⟩|i
  .simp only at hj z
   by_cases K:j=nid
   .subst K;rw[bf]at t;exact .inl t
   .rw[bo _ _ K]at z t;exact .inr (A d _ (.inl ⟨j,hj,z,t⟩))
  .exact .inr (A d _ (.inr i))
 obtain⟨h2,T,hg2⟩:=h.nW (w':=w') (hdr:=l.drawn) hn ⟨(S.H nid).ab+1,.row e k p⟩ u (.inr (Q7 _)) l.os l.tape l.output l.size
  (λq i _=>l.block q i t_) (λq _ i=> .inr (I q i))
  (λT hg2=>⟨N,yr (v:= .slice none 0 0) (World.ownsRow_nil w _ _ _) s h.fr.size (λg hg=> .inr (I g hg)),hk',by
   rcases hc3 with U|d
   .exact B.plain (ze U)
   .exact B.mono (R d) (cr.le _)⟩)
 let⟨ad,n,c,hu⟩:=BD s
 refine⟨u,_,rfl,h2,?_⟩;subst hu;exact .own _ _ _ _ _ hn (by simp[St.gh,St.dh,bf]) (λ_=>by simp[St.gh,St.dh,bf])
def aK.RI{M:Nat->Prop}{G:Gh}{b:Z PV}{vs:Z Va}(f:aK w M G b vs){p:Nat}{y:PV}(h:b[p]?=some y):
  ∃c,aJ w M G y c/\aK w M G (cutAt p b) (cutAt p vs)/\gP p [c] (cutAt p vs)=vs:=by
 let⟨c,e,d⟩:=f.get h
 refine⟨c,d,(f.take p).append (f.drop (p+1)),?_⟩;have g:p<vs.length:=(QL.1 e).1;have l:(vs.take p).length=p:=o_
 have k:(cutAt p vs).take p=vs.take p:=by grind [cutAt]
 have j:(cutAt p vs).drop p=vs.drop (p+1):=by grind [cutAt]
 unfold gP;rw[k,j]
 have i:vs.drop p=c::vs.drop (p+1):=by
  rw[qbh g]
  grind
 rw[qaj,List.singleton_append,<-i,List.take_append_drop]
def HN(hΓ:fe P Γ)(h:Rel E S a w L)(hn:nid<S.N){f:FI}{l:Z PV}{vs:Z Va}(hr:aK w (aH E S L) (S.gh L) l vs)(p:gA Γ nid S f l=some (x,wr)):
  Enters P f/\Calls P f vs.toArray w (λe w'=>∃v L',e= .returned v/\Rel E (S.dh wr) a w' L'/\aJ w' (aH E (S.dh wr) L') ((S.dh wr).gh L') x v):=by
 unfold gA at p;split at p
 .cases p
 .rename_i m hm;obtain⟨hen,J,hconN,hrow,hro⟩:=hΓ f m hm;refine⟨hen,?_⟩;split at p
  .grind [BA,Tt]
  .grind [BA,Tr]
  .grind [BA,Tg]
  split at p
  .rename_i hfresh;split at p
   .rename_i r0 cs K;split at p
    .rename_i k;obtain⟨rfl,rfl⟩:=bh p;simp only[Qa,Qx]at k;obtain⟨hc1,hc2⟩:=k
     have Q:∃X:Nat->Prop,mU w X/\aK w X cr (l.map (TQ.fz S.H none 9)) vs/\(l.all PV.aZ=true->∀q,aH E S L q->X q):=by
      by_cases d:l.all PV.aZ=true
      .exact⟨aH E S L,h.I4 λq c=>c,hr.ss d (λq c=>c),λ_ q c=>c⟩
      .exact⟨λ_=>False,h.x0,hr.fz h (λq c=>c.elim) (λj q V t R z c=>c),λc=>absurd c d⟩
     obtain⟨X,hX,u,A⟩:=Q;refine(hconN hfresh _ _ _ K w X hX vs u).mono ?_;rintro e w' ⟨b,rvs,T,rfl,hbge,hh,hrc,i⟩
     have hmq:l.all PV.aZ=true->∀q,aH E {S with H:=bd S.H nid ⟨(S.H nid).ab+1,.box cs⟩} (bd L nid (.pointer (some ⟨b,0,none⟩))) q->X q\/q=b:=by
      rintro d q (⟨j,V,t,z⟩|c)
      .simp only at V t
       by_cases N:j=nid
       .grind [bf,br]
       .rw[bo _ _ N]at t z;exact .inl (A d q (.inl ⟨j,V,t,z⟩))
      .exact .inl (A d q (.inr c))
     obtain⟨h2,W,hg2⟩:=h.nW (w':=w') (hdr:=i.drawn) hn ⟨(S.H nid).ab+1,.box cs⟩ (.pointer (some ⟨b,0,none⟩)) (.inr (Q7 _)) i.os i.tape i.output i.size (λq c _=>i.block q c t_)
      (λq _ c=> .inr (by simp only[br,Qb]at c;omega))
      (λW hg2=>⟨b,rvs.toArray,T,rfl,hh,.inr (QS h.fr.size hbge),by
       simp only;rcases hc2 with F|d
       .exact hrc.plain F
       .exact hrc.mono (bO.of λ_ hn' c=>hn' (hmq d _ c)) (cr.le _)⟩)
     refine⟨_,_,rfl,h2,?_⟩;exact .ptr _ _ _ _ hn (by simp[St.gh,St.dh,bf]) (λ_=>by simp[St.gh,St.dh,bf,br])
    .cases p
   .cases p
  rename_i hnf;have hnf':m.fresh=false:=by simpa using hnf
  have J:=J hnf';split at p
  .rename_i s;split at p
   .rename_i id ab hpos;generalize hrest:cutAt m.pos l=rest at p;split at p
    .rename_i I;split at p
     .rename_i cs hc;split at p
      .rename_i hcl;split at p
       .rename_i r cs' K;split at p
        .rename_i k;obtain⟨rfl,rfl⟩:=bh p
         have hwr:S.dh (if(m.ro&&cs.all PV.Jt)=true then none else some (id,(⟨ab,.box cs'⟩:dq)))=S.dh (some (id,⟨ab,.box cs'⟩)):=by
          split
          .rename_i c;rw[Qa]at c
           have e1:cs.map TQ.nz=cs:=by
            rw[QW (g:=λy=>y) λy hy=>by have:=Qe.1 c.2 y hy;cases y<;>first|rfl|cases this]
            simp
           have e2:=hro c.1 _ _ _ _ K;rw[e1]at e2;rw[e2];show S={S with H:=bd S.H id ⟨ab,.box cs⟩}
           have e3:(⟨ab,.box cs⟩:dq)=S.H id:=by rw[<-I,<-hc]
           rw[e3]
           have e4:bd S.H id (S.H id)=S.H:=by
            funext j;unfold bd;split
            .rename_i e;rw[e]
            .rfl
           rw[e4]
          .rfl
         rw[hwr];simp only[Qa,Qx]at k;obtain⟨⟨⟨hc1,hc2⟩,hc3⟩,hc4⟩:=k;obtain⟨v0,r0,hr',hins⟩:=hr.RI hpos;rw[hrest]at hr';generalize cutAt m.pos vs=vs' at hr' hins;obtain⟨hN,_⟩:=r0.lL (show(S.gh L).V id=ab from I)
         obtain⟨b,hv0,hL⟩:=h.nY r0 I hc;obtain⟨b',cur,T,hL',hh,hrc,hE⟩:=h.mT hN hc;rw[hL]at hL';simp only[Value.pointer.injEq,Qb,qaL]at hL';obtain⟨rfl,_⟩:=hL';have U:aH E S L b:= .inl ⟨id,hN,by rw[hc];rfl,by rw[hL];rfl⟩
         have Q:∃X:Nat->Prop,mU w X/\(∀q,Mc true b X q->aH E S L q)/\aK w (Mc true b X) cr (rest.map (TQ.fz S.H (some id) 9)) vs'/\(rest.all PV.aZ=true->∀q,aH E S L q->Mc true b X q):=by
          by_cases d:rest.all PV.aZ=true
          .refine⟨aH E S L,h.I4 λq c=>c,λq c=> ?_,?_,λ_ q c=> .inr c⟩
           .rcases c with⟨_,rfl⟩|c
            .exact U
            .exact c
           .exact hr'.ss d (λq c=>by
             rcases c with⟨_,rfl⟩|c
             .exact U
             .exact c)
          .refine⟨λ_=>False,h.x0,λq c=> ?_,?_,λc=>absurd c d⟩
           .rcases c with⟨_,rfl⟩|c
            .exact U
            .exact c.elim
           .refine hr'.fz h (λq c=> ?_) (λj q V t R z c=> ?_)
            .rcases c with⟨_,rfl⟩|c
             .exact U
             .exact c.elim
            .rcases c with⟨_,rfl⟩|c
             .exact R (by rw[h.apart j id q V hN t (by rw[hc];rfl) z (by rw[hL];rfl)])
             .exact c
         obtain⟨X,hX,hsub,u,A⟩:=Q;have n:=J (cs.map TQ.nz) (rest.map (TQ.fz S.H (some id) 9)) r cs' K w X hX b T cur.toList vs' (λ_=>⟨by simpa using hh,by rw[s];exact(hrc.closed hcl hsub).nz,zO h U⟩) (by rw[s];exact u)
         rw[s]at n;have hargsv:(gP m.pos (qh true b) vs').toArray=vs.toArray:=by rw[<-hins,hv0];rfl
         rw[hargsv]at n;refine n.mono ?_;rintro e w' ⟨v,rvs',rfl,D,hrv,i⟩;obtain⟨⟨T',hh'⟩,hrc'⟩:=hrv rfl;simp only[Qp]at i
         have hmm':∀q,aH E {S with H:=bd S.H id ⟨ab,.box cs'⟩} (bd L id (L id)) q->aH E S L q:=by
          rintro q (⟨j,V,t,z⟩|c)
          .simp only at V t;have:bd L id (L id) j=L j:=by by_cases N:j=id<;>simp[bd,N]
           rw[this]at z
           by_cases N:j=id
           .subst N;exact .inl ⟨j,V,by rw[hc];rfl,z⟩
           .rw[bo _ _ N]at t;exact .inl ⟨j,V,t,z⟩
          .exact .inr c
         have hst:rest.all PV.aZ=true->bO w' w' (Mc true b X) (aH E {S with H:=bd S.H id ⟨ab,.box cs'⟩} (bd L id (L id))):=λd=>(bO.of λ_ hnm=>λc=>hnm (A d _ (hmm' _ c)))
         obtain⟨h2,W,hg2⟩:=h.nW (w':=w') (hdr:=i.drawn) hN ⟨ab,.box cs'⟩ (L id) (.inl ⟨I.symm,rfl,by rw[hc];rfl⟩) i.os i.tape i.output i.size
          (λq c R=>i.block q c (λeq=>R (by rw[hc];rfl) (by rw[hL];exact eq)))
          (λq _ c=> .inl ⟨by rw[hc];rfl,c⟩)
          (λW hg2=>⟨b,rvs'.toArray,T',hL,hh',hE,by
           simp only;rcases hc4 with F|d
           .exact hrc'.plain F
           .exact hrc'.mono (hst d) (cr.le _)⟩)
         refine⟨v,_,rfl,h2,?_⟩;rcases hc1 with F|d
         .exact D.nZ F
         .exact D.mono (hst d) (cr.le _)
        .cases p
       .cases p
      .cases p
     .cases p
    .cases p
   .cases p
  .rename_i s;split at p
   .rename_i r cs' K;split at p
    .rename_i k;obtain⟨rfl,rfl⟩:=bh p;simp only[Qx,Qa]at k;have B:m.recv=false:=by simpa using s
     have Q:∃X:Nat->Prop,mU w X/\aK w (Mc false 0 X) cr (l.map (TQ.fz S.H none 9)) vs/\(l.all PV.aZ=true->∀q,aH E S L q->Mc false 0 X q):=by
      by_cases d:l.all PV.aZ=true
      .refine⟨aH E S L,h.I4 λq c=>c,?_,λ_ q c=> .inr c⟩
       exact hr.ss d (λq c=>by
        rcases c with⟨c,_⟩|c
        .cases c
        .exact c)
      .refine⟨λ_=>False,h.x0,?_,λc=>absurd c d⟩
       refine hr.fz h (λq c=> ?_) (λj q V t R z c=> ?_)
       .rcases c with⟨c,_⟩|c
        .cases c
        .exact c.elim
       .rcases c with⟨c,_⟩|c
        .cases c
        .exact c
     obtain⟨X,hX,u,A⟩:=Q;have n:=J [] (l.map (TQ.fz S.H none 9)) r cs' K w X hX 0 0 [] vs (λc=>by rw[B]at c;cases c) (by rw[B];exact u)
     rw[B]at n;simp only[qh,QQ,QF,Iq]at n;refine n.mono ?_;rintro e w' ⟨v,rvs',rfl,D,_,i⟩;simp only[QQ,QF]at i;obtain⟨h2,W⟩:=h.grow (w':=w') i.os i.tape i.output i.size (λq c=>i.block q c t_) i.drawn
     refine⟨v,L,rfl,h2,?_⟩;rcases k with F|⟨d,_⟩
     .exact D.nZ F
     .exact D.mono (bO.of λ_ hnm=>λc=>hnm (A d _ c)) (cr.le _)
    .cases p
   .cases p
end
end
section
open Go.RowKit
section
variable{P:Pr}{E:En}{S:St}{a:Act}{w:Wo}{L:Nat->Va}{o:Oper}{x:PV}{wr:Y (Nat×dq)}{Γ:gL}{nid:Nat}{hs:Z Nat}
theorem AD{α:Type}(f:Nat->α)(i:Nat):bd f i (f i)=f:=by grind [bd]
def Rel.kill(h:Rel E S a w L){id:Nat}(d:id<S.N)(c:(S.H id).c.live=true):Rel E {S with H:=bd S.H id ⟨(S.H id).ab,.dead⟩} a w L:=by
 have:=(h.nW (w':=w) d ⟨(S.H id).ab,.dead⟩ (L id) (.inl ⟨rfl,rfl,c⟩) rfl rfl rfl (Ql _) (λ_ _ _=>rfl) (λb c=>by cases c) (λ_ _=>trivial)).1
 rwa [AD]at this
def Rel.Te(h:Rel E S a w L){id e k:Nat}{es:Z (Z PV)}(s:id<S.N)(I:(S.H id).c= .row e k es)(V:∀u∈es,u.all PV.closed=true):
  Rel E {S with H:=bd S.H id ⟨(S.H id).ab,.dead⟩} a w L/\∀v,v=L id->aJ w (aH E {S with H:=bd S.H id ⟨(S.H id).ab,.dead⟩} L) (St.gh {S with H:=bd S.H id ⟨(S.H id).ab,.dead⟩} L) (.sl es) v:=by
 have c:(S.H id).c.live=true:=by rw[I];rfl
 refine⟨h.kill s c,λv Q=> ?_⟩
 let⟨vs,f,hk,T⟩:=h.fZ s I
 rw[Q]
 have J:∀b,aH E {S with H:=bd S.H id ⟨(S.H id).ab,.dead⟩} L b->aH E S L b/\(br (L id)=some b->E.X b):=by
  rintro b (⟨j,y,d,r⟩|F)
  .simp only at y d
   by_cases l:j=id
   .subst l;rw[bf]at d;cases d
   .rw[bo _ _ l]at d;exact⟨.inl ⟨j,y,d,r⟩,λD=>absurd (h.apart j id b y s d c r D) l⟩
  .exact⟨.inr F,λ_=>F⟩
 rcases f.2 with⟨m,X⟩|⟨g,cap,cur,m,B,hh,t,z,_⟩
 .have:es=[]:=qak X;subst this;rw[m];exact .slnil
 .rw[m]
  have A:es.flatten.all PV.closed=true:=by grind
  have p:=aK.closed (M':=aH E {S with H:=bd S.H id ⟨(S.H id).ab,.dead⟩} L) (G':=cr) A (λb r=>(J b r).1) T
  refine .sl _ _ _ k vs hk p.1 (λi u R=>⟨f.cells (g:=g) (by rw[m];rfl) i u R,λU=> ?_⟩) p.2 (by simpa using t) z
  have n:=(J g U).2 (by rw[m];rfl)
  have q:br (L id)=some g:=by rw[m];rfl
  by_cases K:E.H0 g
  .exact(h.an.2.2 g K).2.2 id s c q
  rcases AJ q B with⟨N,W⟩|N
  .exact E.Gy N g W n
  .have:=E.hX.lt g ⟨n,K⟩;omega
def Rel.Al(h:Rel E S a w L){id e k:Nat}{es:Z (Z PV)}{v:Va}(r:aJ w (aH E S L) (S.gh L) (.own id (S.H id).ab) v)(d:(S.H id).c= .row e k es)(b:∀u∈es,u.all PV.closed=true):
  Rel E {S with H:=bd S.H id ⟨(S.H id).ab,.dead⟩} a w L/\aJ w (aH E {S with H:=bd S.H id ⟨(S.H id).ab,.dead⟩} L) (St.gh {S with H:=bd S.H id ⟨(S.H id).ab,.dead⟩} L) (.sl es) v:=by
 let⟨f,c⟩:=r.iA (show(S.gh L).V id=(S.H id).ab from rfl)
 let⟨h1,g⟩:=h.Te f d b
 exact⟨h1,g v c⟩
def O1{e k b:Nat}{s y:aM}(g:exec Γ nid S (.bm true e k b s y)=some (x,wr)):∃id ab es,exec Γ nid S (.bm false e k b s y)=some (.own id ab,some (id,⟨ab,.row e k es⟩))/\x= .sl es/\wr=some (id,⟨ab,.dead⟩)/\∀u∈es,u.all PV.closed=true:=by
 have h:∀{id ab:Nat} {es:Z (Z PV)},Da true id ab e k es=some (x,wr)->∃d c f,Da false id ab e k es=some (.own d c,some (d,⟨c,.row e k f⟩))/\x= .sl f/\wr=some (d,⟨c,.dead⟩)/\∀u∈f,u.all PV.closed=true:=by grind [Da,bh]
 simp only[exec]at g ⊢;split at g
 .grind
 .cases g
def Good.Al{id ab e k:Nat}{es:Z (Z PV)}(h:Good P E S a w o (.own id ab) (some (id,⟨ab,.row e k es⟩)))(c:∀u∈es,u.all PV.closed=true):Good P E S a w o (.sl es) (some (id,⟨ab,.dead⟩)):=by
 let⟨l,w',p,v,h1,m,f,i⟩:=h
 have d:(S.dh (some (id,⟨ab,.row e k es⟩))).H id=⟨ab,.row e k es⟩:=bf _ _ _;have b:((S.dh (some (id,⟨ab,.row e k es⟩))).H id).ab=ab:=by rw[d]
 have g:((S.dh (some (id,⟨ab,.row e k es⟩))).H id).c= .row e k es:=by rw[d]
 generalize hS:S.dh (some (id,⟨ab,.row e k es⟩))=S1 at f i d b g;rw[<-b]at f
 let⟨g1,g2⟩:=i.Al f g c
 rw[b,<-hS]at g1 g2
 have n:({S.dh (some (id,⟨ab,.row e k es⟩))with H:=bd (S.dh (some (id,⟨ab,.row e k es⟩))).H id ⟨ab,.dead⟩}:St)=S.dh (some (id,⟨ab,.dead⟩)):=by
  unfold St.dh;simp[St.mk.injEq,qaM,qaa]
  funext j
  unfold bd;split<;>rfl
 rw[n]at g1 g2;exact⟨l,w',p,v,h1,m,g2,g1⟩
def gr{f:FI}(d:Enters P f)(b:Array Va):(callFunc f b).run P w= .ok (.enter f b) w:=by
 let⟨fn,j,h,i⟩:=d
 have g:¬fn.body=none:=by intro e;rw[e]at h;cases h
 have c:¬fn.name= "runtime.NumGoroutine":=by simpa using i
 simp[callFunc,program,Sem.run,j,g,c]
def HM{f:FI}{b:Array Va}(g:(execOp a.eval o).run P w= .ok (.enter f b) w)
  (c:Calls P f b w (λe w'=>∃v d,e= .returned v/\Rel E (S.dh wr) a w' d/\aJ w' (aH E (S.dh wr) d) ((S.dh wr).gh d) x v)) (i:DF o) (j:∀t,o.dst=some t->E.can t) {K:Act->Wo->Prop} {Q:Exit->Act->Wo->Prop}
  (k:∀a' w' d,Rel E (S.bm o.dst x wr) a' w' d->K a' w'):o.wpIn (WF E.rd) 0 P a w K Q:=by
 unfold Oper.wpIn;rw[qaA _ _ _ i,g];refine⟨λ_ _=>trivial,(λh=>by cases h),wO.2 (Calls.mono c ?_)⟩
 rintro e w' ⟨v,d,rfl,h1,l⟩;exact k _ _ _ (show Rel E (S.bm o.dst x wr) (a.put o.dst v) w' d from h1.Mj j l)
def J9{f:FI}{xs:Z aM}(b:uQ P hs o=some (.call f xs)):∃(args:Array Od) (c:Array TI),o.op= .call {callee:= .value (.func f),args:=args,argTypes:=c}/\args.toList.mapM aL=some xs:=by
 unfold uQ at b;split at b
 case h_22 h args c e=>
  simp[Qh,Qd]at b
  let⟨i,d,b⟩:=b
  split at b
  .injection b with b
   injection b with h1 g
   subst h1 g;exact⟨_,_,e,d⟩
  .simp[Qd,Qb,reduceCtorEq,qaf,qbt]at b
 all_goals (repeat' split at b)<;>(try simp[Qh,Qd,Qb,reduceCtorEq,qaf,qbt]at b)<;>(try (let⟨_,_,b⟩:=b))<;>(try (let⟨_,_,b⟩:=b))<;>(try (let⟨_,_,b⟩:=b))<;>(repeat' split at b)<;>(try simp[Qh,Qd,Qb,reduceCtorEq,qaf,qbt]at b)<;>cases b
def mZ{s:bV}(b:uQ P hs o=some s):DF o:=by intro c e;unfold uQ at b;rw[e]at b;cases b
theorem MA(hΓ:fe P Γ){s:bV}(d:uQ P hs o=some s)(h:Rel E S a w L)(U:nid<S.N)(q:exec Γ nid S s=some (x,wr))(r:∀t,o.dst=some t->E.can t){K:Act->Wo->Prop}{Q:Exit->Act->Wo->Prop}
  (A:∀a' w' L',Rel E (S.bm o.dst x wr) a' w' L'->K a' w'):o.wpIn (WF E.rd) 0 P a w K Q:=by
 have m:DF o:=mZ d;unfold uQ at d;split at d
 case h_1 y j=>simp[Qh,Qd,Qb]at d;obtain⟨F,p,rfl⟩:=d;simp only[exec]at q;obtain⟨rfl,rfl⟩:=bh q;exact(PG h (.inl j) p).wp m r A
 case h_2 y j=>simp[Qh,Qd,Qb]at d;obtain⟨F,p,rfl⟩:=d;simp only[exec]at q;obtain⟨rfl,rfl⟩:=bh q;exact(PG h (.inr j) p).wp m r A
 case h_3 c y z j=>simp[Qh,Qd,Qb]at d;obtain⟨c',hc',F,p,J,B,rfl⟩:=d;exact(S7 h j hc' p B q).wp m r A
 case h_4 t y j=>
  simp[Qh,Qd,Qb]at d;obtain⟨F,p,rfl⟩:=d;split at q
  .split at q
   .exact(Tc h j p q).wp m r A
   .exact(PJ h U j p q).wp m r A
  .exact(PJ h U j p q).wp m r A
 case h_5 t j=>simp[Qh,Qd,Qb]at d;obtain⟨z,B,rfl⟩:=d;exact(Rw h U j B q).wp m r A
 case h_6 t y j=>simp[Qh,Qd,Qb]at d;obtain⟨n,hn',F,p,rfl⟩:=d;exact(S8 h j hn' p q).wp m r A
 case h_7 t y z j=>simp[Qh,Qd,Qb]at d;obtain⟨i,hi,F,p,J,B,rfl⟩:=d;exact(Rr h j hi p B q).wp m r A
 case h_8 t parts j=>
  split at d
  .rename_i V D;simp[Qh,Qd,Qb]at d;obtain⟨z,B,places,hp,ps,X,rfl⟩:=d;exact(Lf h j B (.inl ⟨V,places,D,hp,X⟩) q).wp m r A
  .rename_i n e D;simp[Qh,Qd,Qb]at d;obtain⟨z,B,i,hi,ps,X,rfl⟩:=d;exact(Lf h j B (.inr ⟨n,e,i,D,hi,X⟩) q).wp m r A
  .cases d
 case h_9 t len parts j=>
  split at d
  .rename_i e D;simp only[Qh,Qd]at d;obtain⟨i,hi,z,B,ps,X,d⟩:=d;split at d
   .rename_i R;injection d with d
    subst d;exact(U2 h U j D hi B X R.1 R.2.1 R.2.2 q).wp m r A
   .cases d
  .cases d
 case h_10 s0 y f j=>
  split at d
  .rename_i V D;simp only[Qh,Qd]at d;obtain⟨fd,hf,i,hi,d⟩:=d;split at d
   .cases d
   .rename_i h0;simp[Qd,Qb]at d;obtain⟨F,p,rfl⟩:=d;exact(Ru h j D hf hi h0 p q).wp m r A
  .cases d
 case h_11 t y z j=>
  split at d
  .rename_i e D;simp[Qh,Qd,Qb]at d;obtain⟨i,hi,F,p,J,B,rfl⟩:=d;exact(Rt h j D hi p B q).wp m r A
  .rename_i n e D;simp[Qh,Qd,Qb]at d;obtain⟨i,hi,F,p,J,B,rfl⟩:=d;exact(Rx h j D hi p B q).wp m r A
  .cases d
 case h_12 op t y z t2 j=>
  split at d
  .rename_i fs D;split at d
   .rename_i f g hfs;split at d
    .rename_i k0 hf hg;split at d
     .rename_i R
      let⟨b1,b2,b3,b4,b5,b6⟩:=R
      split at d
      .simp[Qh,Qd,Qb]at d;obtain⟨F,p,J,B,rfl⟩:=d;exact(PI (neg:=false) h (by simpa using j) D hfs hf hg b1 b2 b3 b4 b5 b6 p B q).wp m r A
      .simp[Qh,Qd,Qb]at d;obtain⟨F,p,J,B,rfl⟩:=d;exact(PI (neg:=true) h (by simpa using j) D hfs hf hg b1 b2 b3 b4 b5 b6 p B q).wp m r A
      .cases d
     .cases d
    .split at d
     .rename_i ks hks;split at d
      .rename_i hgu;split at d
       .simp[Qh,Qd,Qb]at d;obtain⟨F,p,J,B,rfl⟩:=d;exact(IZ (neg:=false) h (by simpa using j) D hks hgu p B q).wp m r A
       .simp[Qh,Qd,Qb]at d;obtain⟨F,p,J,B,rfl⟩:=d;exact(IZ (neg:=true) h (by simpa using j) D hks hgu p B q).wp m r A
       .cases d
      .cases d
     .cases d
   .split at d
    .rename_i ks hks;split at d
     .rename_i hgu;split at d
      .simp[Qh,Qd,Qb]at d;obtain⟨F,p,J,B,rfl⟩:=d;exact(IZ (neg:=false) h (by simpa using j) D hks hgu p B q).wp m r A
      .simp[Qh,Qd,Qb]at d;obtain⟨F,p,J,B,rfl⟩:=d;exact(IZ (neg:=true) h (by simpa using j) D hks hgu p B q).wp m r A
      .cases d
     .cases d
    .cases d
  .rename_i e D;split at d
   .split at d
    .simp[Qh,Qd,Qb]at d;obtain⟨F,p,rfl⟩:=d;exact(Le (neg:=false) h (by simpa using j) D p q).wp m r A
    .simp[Qh,Qd,Qb]at d;obtain⟨F,p,rfl⟩:=d;exact(Le (neg:=true) h (by simpa using j) D p q).wp m r A
    .cases d
   .cases d
  .rename_i D;split at d
   .simp[Qh,Qd,Qb]at d;obtain⟨F,p,J,B,rfl⟩:=d;exact(PH (neg:=false) h (by simpa using j) D p B q).wp m r A
   .simp[Qh,Qd,Qb]at d;obtain⟨F,p,J,B,rfl⟩:=d;exact(PH (neg:=true) h (by simpa using j) D p B q).wp m r A
   .cases d
  .rename_i D;split at d
   .simp only[Qh,Qd,Qb]at d;obtain⟨F,p,J,B,rfl⟩:=d;exact(S6 h j p B q).wp m r A
   .simp only[Qh,Qd,Qb]at d;obtain⟨F,p,J,B,rfl⟩:=d;exact(PK h j p B q).wp m r A
  .rename_i ms D;split at d
   .split at d
    .simp only[Qh,Qd,Qb]at d;obtain⟨F,p,rfl⟩:=d;exact(Nw (neg:=false) h (by simpa using j) D p q).wp m r A
    .simp only[Qh,Qd,Qb]at d;obtain⟨F,p,rfl⟩:=d;exact(Nw (neg:=true) h (by simpa using j) D p q).wp m r A
    .cases d
   .cases d
  .simp only[Qh,Qd,Qb]at d;obtain⟨F,p,J,B,rfl⟩:=d;exact(PK h j p B q).wp m r A
 case h_13 t y j=>simp[Qh,Qd,Qb]at d;obtain⟨F,p,rfl⟩:=d;exact(US h j p q).wp m r A
 case h_14 src dst y j=>
  split at d
  .rename_i k0 k hs ht;simp[Qh,Qd,Qb]at d;obtain⟨F,p,rfl⟩:=d;exact(Tb h j hs ht p q).wp m r A
  .rename_i e hs ht;split at d
   .rename_i R;simp only[Qh,Qd,Qb]at d;obtain⟨F,p,rfl⟩:=d;exact(U3 h j hs R ht p q).wp m r A
   .cases d
  .cases d
 case h_15 t y z j=>
  split at d
  .rename_i len e D;simp[Qh,Qd,Qb]at d;obtain⟨n,U,i,hi,F,p,J,B,rfl⟩:=d;exact(Td h j D U hi p B q).wp m r A
  .cases d
 case h_16 t y z ok j=>
  injection d with d
  subst d;cases q
 case h_17 y j=>simp[Qh,Qd,Qb]at d;obtain⟨F,p,rfl⟩:=d;exact(Rs h j p q).wp m r A
 case h_18 y i j=>simp[Qh,Qd,Qb]at d;obtain⟨F,p,rfl⟩:=d;exact(Ta h j p q).wp m r A
 case h_19 f first caps j=>
  split at d
  .rename_i h0;simp[Qh,Qd,Qb]at d;obtain⟨cs,hcs,rfl⟩:=d;exact(UY h j h0 hcs q).wp m r A
  .split at d
   .rename_i h0;simp[Qh,Qd,Qb]at d;obtain⟨cs,hcs,rfl⟩:=d;exact(UZ h j h0 hcs q).wp m r A
   .cases d
 case h_20 t l c j=>
  split at d
  .rename_i e D;simp only[Qh,Qd]at d;obtain⟨i,hi,d⟩:=d;split at d
   .rename_i h0;simp[Qd,Qb]at d;obtain⟨z,B,l',hl,c',hc',rfl⟩:=d;exact(UU h U j D hi h0 B hl hc' q).wp m r A
   .cases d
  .cases d
 case h_21 t y lo hi j=>
  split at d
  .rename_i e D;simp[Qh,Qd,Qb]at d;obtain⟨i,hi0,F,p,lo',hlo,hi',hhi,rfl⟩:=d;exact(UR h j D hi0 p hlo hhi q).wp m r A
  .rename_i D;split at d
   .cases d
   .simp[Qh,Qd,Qb]at d;obtain⟨F,p,l',hl,rfl⟩:=d;exact(JQ h j D p (.inl ⟨_,_,rfl,rfl,hl,rfl⟩) q).wp m r A
   .simp only[Qh,Qd,Qb]at d;obtain⟨F,p,l',hl,rfl⟩:=d;exact(JQ h j D p (.inr (.inl ⟨_,_,rfl,rfl,hl,rfl⟩)) q).wp m r A
   .simp only[Qh,Qd,Qb]at d;obtain⟨F,p,l',hl,m',hm,rfl⟩:=d;exact(JQ h j D p (.inr (.inr ⟨_,_,_,_,rfl,rfl,hl,hm,rfl⟩)) q).wp m r A
  .cases d
 case h_22 fop args T j=>
  simp[Qh,Qd]at d
  let⟨xs,hxs,d⟩:=d
  have hr:=h.cy hxs;have W:args.map a.eval=(args.toList.map a.eval).toArray:=by rw[<-qaJ,QX]
  split at d
  .rename_i f;injection d with d
   subst d;simp[exec]at q
   let⟨hen,I⟩:=HN hΓ h U hr q
   exact HM (by simp[execOp,j,resolve,Act.eval,Deferred.ofValue,invoke,W,gr hen]) I m r A
  .simp[Qd,Qb]at d;obtain⟨fv,hfv,rfl⟩:=d;have rf:=h.dK hfv;simp[exec]at q;split at q
   .rename_i f caps ef;rw[ef]at rf
    let⟨vs,hv,hrc⟩:=rf.oX
    let⟨hen,I⟩:=HN hΓ h U (hr.append hrc) q
    refine HM ?_ I m r A;simp[execOp,j,resolve,hv,Deferred.ofValue,Qu,QP,QI,invoke,W];simp[gr hen]
   .rename_i f caps ef;rw[ef]at rf
    let⟨vs,hv,hrc⟩:=rf.HO
    let⟨hen,I⟩:=HN hΓ h U (hrc.append hr) q
    refine HM ?_ I m r A;simp[execOp,j,resolve,hv,Deferred.ofValue,Qu,QP,QI,invoke,W];simp[gr hen]
   .cases q
 case h_23 b args T j=>
  split at d
  .rename_i y t H N;have W:args=#[y]:=by rw[<-QX (xs:=args),H]
   have R:T=#[t]:=by rw[<-QX (xs:=T),N]
   subst W R;split at d
   .rename_i D;simp[Qh,Qd,Qb]at d;obtain⟨F,p,rfl⟩:=d;exact(S9 h j D p q).wp m r A
   .rename_i e D;simp[Qh,Qd,Qb]at d;obtain⟨F,p,rfl⟩:=d;exact(U0 h j D p q).wp m r A
   .cases d
  .rename_i y z t t' H N;have W:args=#[y,z]:=by rw[<-QX (xs:=args),H]
   have R:T=#[t,t']:=by rw[<-QX (xs:=T),N]
   subst W R;split at d
   .rename_i e D;simp only[Qh,Qd]at d;obtain⟨i,hi,zv,hzv,d⟩:=d;split at d
    .rename_i R;obtain⟨rfl,b2,b3⟩:=R;simp[Qd,Qb]at d;obtain⟨F,p,J,B,rfl⟩:=d
     cases hf:Pg hs o with
     |false=>rw[hf]at q;exact(PL h U j D hi hzv b2 b3 p B q).wp m r A
     |true=>rw[hf]at q;obtain⟨id,ab,es,g1,rfl,rfl,g2⟩:=O1 q;exact((PL h U j D hi hzv b2 b3 p B g1).Al g2).wp m r A
    .cases d
   .cases d
  .rename_i y t H N;have W:args=#[y]:=by rw[<-QX (xs:=args),H]
   have R:T=#[t]:=by rw[<-QX (xs:=T),N]
   subst W R;split at d
   .rename_i e D;simp[Qh,Qd,Qb]at d;obtain⟨i,hi,z,B,F,p,rfl⟩:=d;exact(Rv h j D hi B p q).wp m r A
   .cases d
  .rename_i y z H;have W:args=#[y,z]:=by rw[<-QX (xs:=args),H]
   subst W;simp[Qh,Qd,Qb]at d;obtain⟨F,p,J,B,rfl⟩:=d;exact(JR (mx:=false) h (by simpa using j) p B q).wp m r A
  .rename_i y z H;have W:args=#[y,z]:=by rw[<-QX (xs:=args),H]
   subst W;simp[Qh,Qd,Qb]at d;obtain⟨F,p,J,B,rfl⟩:=d;exact(JR (mx:=true) h (by simpa using j) p B q).wp m r A
  .cases d
 case h_24 t y i j=>
  split at d
  .rename_i fs D;split at d
   .rename_i f hf;simp[Qh,Qd,Qb]at d;obtain⟨n,U,F,p,rfl⟩:=d;exact(U1 h j D hf U p q).wp m r A
   .cases d
  .cases d
 case h_25 t y j=>
  split at d
  .rename_i ht;simp only[Qh,Qd,Qb]at d;obtain⟨F,p,rfl⟩:=d;exact(UX h j ht p q).wp m r A
  .cases d
 case h_26 y t0 t j=>
  split at d
  .cases d
  .rename_i u i hni D hi;simp only[Qh,Qd,Qb]at d;obtain⟨zv,B,zp,hzp,F,p,rfl⟩:=d;exact(UQ h j D (λms e=>by subst e;exact hni _ rfl) hi B hzp p q).wp m r A
  .cases d
 case h_27 t y j=>simp only[Qh,Qd,Qb]at d;obtain⟨F,p,rfl⟩:=d;exact(UT h j p q).wp m r A
 case h_28 t j=>
  injection d with d
  subst d;exact(UW h j q).wp m r A
 case h_29 j=>
  injection d with d
  subst d;cases q
 case h_30 j=>
  injection d with d
  subst d;cases q
 case h_31=>cases d
end
end
section
open Go.RowKit
def lB(P:Pr)(hs:Z Nat)(ops:Array Oper)(o:Oper):Y SG:=
 match uQ P hs o with
 |none=>none
 |some s=>
  match o.guard with
  |none=>some ⟨o.dst,none,s⟩
  |some (j,want)=>
   match ops[j]? with
   |none=>none
   |some b=>
    match b.dst with
    |none=>none
    |some t=>some ⟨o.dst,some (t,want),s⟩
section
variable{P:Pr}{E:En}{S:St}{a:Act}{w:Wo}{L:Nat->Va}{Γ:gL}{hs:Z Nat}
def Am{ops:Array Oper}{o:Oper}{g:SG}(h:lB P hs ops o=some g):uQ P hs o=some g.op/\g.d=o.dst/\
  ((o.guard=none/\g.g=none)\/∃j b c t,o.guard=some (j,b)/\ops[j]?=some c/\c.dst=some t/\g.g=some (t,b)):=by
 unfold lB at h
 grind
def HV{ops:Array Oper}{o:Oper}{g:SG}(h:Rel E S a w L)(n:lB P hs ops o=some g){b:Bool}(c:g.wanted S=some b):Region.wanted o (yielded ops a.tmps)=b:=by
 let⟨_,_,m⟩:=Am n
 unfold SG.wanted at c;rcases m with⟨h1,i⟩|⟨j,want,r,t,h1,i,l,p⟩
 .rw[i]at c;injection c with c
  subst c;simp[Region.wanted,h1]
 .rw[p]at c;simp only at c;have f:=h.env t;split at c
  .rename_i q k;rw[k]at f;have d:=f.fp;injection c with c
   subst c
   have:a.tmps[t]?=some (.bool q):=by
    rw[Qq]at d
    cases e:a.tmps[t]? with
    |none=>rw[e]at d;simp[undef]at d
    |some v=>rw[e]at d;simp at d;rw[d]
   simp[Region.wanted,h1,yielded,i,l,this]
  .rename_i k;rw[k]at f;have d:=f.M1;injection c with c
   subst c
   have:yielded ops a.tmps j=none:=by
    simp[yielded,i,l,QK];rw[Qq]at d
    cases e:a.tmps[t]? with
    |none=>rfl
    |some v=>rw[e]at d;simp at d;rw[d];rfl
   simp[Region.wanted,h1,this]
  .cases c
def qO(j:fe P Γ){ops:Array Oper}{o:Oper}{g:SG}(d:lB P hs ops o=some g)(h:Rel E S a w L){nid:Nat}(m:nid<S.N)(k:∀t,o.dst=some t->E.can t){S':St}(hs:nC Γ nid S g=some S'){K:Act->Wo->Prop}{Q:Exit->Act->Wo->Prop}
  (i:∀a' w' l,Rel E S' a' w' l->K a' w'):if Region.wanted o (yielded ops a.tmps)=true then o.wpIn (WF E.rd) 0 P a w K Q else(∀f,o.about P w a.eval=some f->(WF E.rd).fn f)/\K (a.put o.dst undef) w:=by
 let⟨e,c,_⟩:=Am d
 unfold nC at hs;split at hs
 .rename_i b;rw[HV h d b,Qc rfl];simp only[Qi]at hs
  grind [MA]
 .rename_i b;rw[HV h d b,Qf t_];injection hs with hs
  subst hs;rw[c]at i;exact⟨λ_ _=>trivial,i _ _ _ (h.Mj k .undef)⟩
 .cases hs
def St.wQ(S:St)(d:Y Nat)(x:PV)(wr:Y (Nat×dq)):(S.bm d x wr).N=S.N:=rfl
def Pm{nid:Nat}{g:SG}{S':St}(hs:nC Γ nid S g=some S'):S'.N=S.N:=by
 unfold nC at hs;split at hs
 .simp only[Qi]at hs;obtain⟨p,_,rfl⟩:=hs;rfl
 .cases hs;rfl
 .cases hs
def rK(c:fe P Γ){ops:Array Oper}:∀(l:Z Oper) (d:Z SG) (nid:Nat) (S S':St) (a:Act) (w:Wo) (L:Nat->Va),l.mapM (lB P hs ops)=some d->Rel E S a w L->nid+l.length<=S.N->
  (∀o∈l,∀t,o.dst=some t->E.can t)->qn Γ nid d S=some S'->∀{Q:Exit->Act->Wo->Prop},(∀a' w' n,Rel E S' a' w' n->Q .normal a' w')->wpListIn (WF E.rd) 0 P ops Q l a w
 |[],d,nid,S,S',a,w,L,hm,h,k,i,b,Q,j=>by simp at hm;subst hm;simp[qn,Qb]at b;subst b;exact j a w L h
 |o::l,d,nid,S,S',a,w,L,hm,h,k,i,b,Q,j=>by
  simp[QE,Qh,Qd,QN,Qb]at hm;obtain⟨g,q,m,f,rfl⟩:=hm;simp[qn]at b;split at b
  .rename_i S1 hs;refine qaN λK r=> ?_
   refine qO c q h (by simp at k;omega) (i o t_) hs (λa' w' n s=>r _ _ ?_)
   exact rK c l m (nid+1) S1 S' a' w' n f s (by rw[Pm hs];simp at k;omega) (λp e=>i p (by simp[e])) b j
  .cases b
inductive SC where
 |skip
 |jq (ops:List SG)
 |jr (un:List (Nat×Nat)) (ops:List SG)
 |seq (x y:SC)
 |cond (c:aM) (x y:SC)
 |block (id:Nat) (c:SC)
 |loop (c:SC)
 |rM (g:aM) (ps:List Nat) (x y:SC)
 |exit (id:Nat)
 |ret
def eE:Code->Z Nat
 | .region _ ops _=>ops.toList.filterMap (·.dst)
 | .seq x y| .cond _ x y=>eE x++eE y
 | .block _ c| .loop c=>eE c
 | .rangeFunc _ ps x y=>ps.toList++eE x++eE y
 |_=>[]
def n9:Code->Bool
 | .seq x y| .cond _ x y=>n9 x&&n9 y
 | .block _ c| .loop c=>n9 c
 | .rangeFunc ..=>false
 |_=>true
def yW(E:En)(c:Code):Prop:=(∀t∈eE c,E.kt t=none)/\((E.rd=none/\E.nd=false/\∀id,E.gn id=none)\/n9 c=true)
def yW.Sf{E:En}{x y:Code}(h:yW E (.seq x y)):yW E x:=⟨λt b=>h.1 t (List.mem_append_left _ b),h.2.imp id λe=>by simp[n9,Qa]at e;exact e.1⟩
def yW.Se{E:En}{x y:Code}(h:yW E (.seq x y)):yW E y:=⟨λt b=>h.1 t (List.mem_append_right _ b),h.2.imp id λe=>by simp[n9,Qa]at e;exact e.2⟩
def yW.PS{E:En}{c:Od}{x y:Code}(h:yW E (.cond c x y)):yW E x:=⟨λt b=>h.1 t (List.mem_append_left _ b),h.2.imp id λe=>by simp[n9,Qa]at e;exact e.1⟩
def yW.PR{E:En}{c:Od}{x y:Code}(h:yW E (.cond c x y)):yW E y:=⟨λt b=>h.1 t (List.mem_append_right _ b),h.2.imp id λe=>by simp[n9,Qa]at e;exact e.2⟩
def GU{E:En}{id:Nat}{ops:Array Oper}{d:Bool}{nt:Nat}(g:E.nt=nt)(e:yW E (.region id ops d))(f:∀o∈ops.toList,∀t,o.dst=some t->t<nt):∀o∈ops.toList,∀t,o.dst=some t->E.can t:=
 λo c t b=>⟨by rw[g];exact f o c t b,e.1 t (List.mem_filterMap.2 ⟨o,c,b⟩)⟩
def V(P:Pr)(nt:Nat)(c:Code)(Q:Exit->St->Prop)(S:St):Prop:=
 ∀(E:En),E.nt=nt->yW E c->∀(a:Act) (w:Wo) (L:Nat->Va),Rel E S a w L->c.wpIn (WF E.rd) 0 P (λe a' w'=>∃S' b,Rel E S' a' w' b/\Q e S') a w
def V.mono{nt:Nat}{c:Code}{Q Q':Exit->St->Prop}(h:V P nt c Q S)(d:∀e S,Q e S->Q' e S):V P nt c Q' S:=
 λE g f a w L b=>Q2 (h E g f a w L b) λ_ _ _ ⟨S',j,h1,i⟩=>⟨S',j,h1,d _ _ i⟩
def Cb(K:St->Prop)(Q:Exit->St->Prop):Exit->St->Prop
 | .normal,S=>K S
 | .exit i,S=>Q (.exit i) S
 | .goto l,S=>Q (.goto l) S
 | .ret,S=>Q .ret S
 | .panic c,S=>Q (.panic c) S
 | .outgrown,S=>Q .outgrown S
def Ap(id:Nat)(Q:Exit->St->Prop):Exit->St->Prop
 | .exit i,S=>if i=id then Q .normal S else Q (.exit i) S
 | .normal,S=>Q .normal S
 | .goto l,S=>Q (.goto l) S
 | .ret,S=>Q .ret S
 | .panic c,S=>Q (.panic c) S
 | .outgrown,S=>Q .outgrown S
def Ue{nt:Nat}{Q:Exit->St->Prop}(h:Q .normal S):V P nt .skip Q S:=λ_ _ _ _ _ L b=>qaW ⟨S,L,b,h⟩
def Uf{nt id:Nat}{Q:Exit->St->Prop}(h:Q (.exit id) S):V P nt (.exit id) Q S:=λ_ _ _ _ _ L b=>qaX ⟨S,L,b,h⟩
def Vc{nt:Nat}{Q:Exit->St->Prop}(h:Q .ret S):V P nt .ret Q S:=λ_ _ _ _ _ L b=>qaY ⟨S,L,b,h⟩
def Vb{nt:Nat}{x y:Code}{Q:Exit->St->Prop}(h:V P nt x (Cb (V P nt y Q) Q) S):V P nt (.seq x y) Q S:=λE g f a w L j=>
 Q8 (Q2 (h E g f.Sf a w L j) λe a' w' ⟨S',d,h1,b⟩=>by
  cases e with
  |normal=>exact b E g f.Se a' w' d h1
  |exit i|goto l|ret|panic c=>exact⟨S',d,h1,b⟩
  |outgrown=>exact⟨S',d,h1,b⟩)
def Ug{nt:Nat}{c:Od}{f:aM}{x y:Code}{b:Bool}{Q:Exit->St->Prop}(g:aL c=some f)(i:f.val S= .bool b)(h:V P nt (if b then x else y) Q S):V P nt (.cond c x y) Q S:=λE j e a w L d=>by
 have:=d.dK g;rw[i]at this
 exact qaO this.fp (h E j (by
  cases b
  .exact e.PR
  .exact e.PS) a w L d)
def RT{nt id:Nat}{c:Code}{Q:Exit->St->Prop}(h:V P nt c (Ap id Q) S):V P nt (.block id c) Q S:=λE j g a w L f=>
 qaZ (Q2 (h E j g a w L f) λe a' w' ⟨S',d,h1,b⟩=>by
  cases e with
  |exit i=>
   simp[Ap]at b;simp only[Exit.inBlock];split
   .rename_i hi;rw[Qc hi]at b;exact⟨S',d,h1,b⟩
   .rename_i hi;rw[Qf hi]at b;exact⟨S',d,h1,b⟩
  |normal|goto l|ret|panic c=>exact⟨S',d,h1,b⟩
  |outgrown=>exact⟨S',d,h1,b⟩)
def lj{α β:Type}{f:α->Y β}:∀{l:Z α} {r:Z β},l.mapM f=some r->r.length=l.length
 |[],r,h=>by simp at h;subst h;rfl
 |x::l,r,h=>by simp[QE,Qh,Qd,QN,Qb]at h;obtain⟨y,_,c,b,rfl⟩:=h;simp[lj b]
def PV.iN(n:Nat):PV->Bool
 | .own id _| .ptr id _ _| .ct id _ _ _ _| .view id _ _ _ _=>decide (id<n)
 | .agg _| .bP _| .aQ _ _| .ff _ _=>false
 |_=>true
def PV.under(n:Nat):PV->Bool
 | .agg cs| .bP cs| .aQ _ cs| .ff _ cs=>cs.all (PV.iN n)
 |x=>x.iN n
def jl.under(n:Nat):jl->Bool
 | .dead=>true
 | .box cs=>cs.all (PV.under n)
 | .row _ _ es=>es.all λe=>e.all (PV.under n)
def aJ.iN{M M':Nat->Prop}{G G':Gh}{x:PV}{v:Va}(f:x.iN G'.N=true)(r:∀b,M' b->M b)(s:G'.L=G.L)(m:∀id,id<G'.N->G'.V id=G.V id)(h:aJ w M G x v):aJ w M' G' x v:=by
 have hs:bO w w M M':=(bO.of λ_ t=>λq=>t (r _ q))
 cases h with
 |any=>exact .any _
 |undef=>exact .undef
 |int=>exact .int _ _
 |bool=>exact .bool _
 |dP=>first|exact .dP _|simp[PV.closed]at K
 |str=>exact .str _
 |fD=>exact .fD
 |cz=>exact .cz
 |aQ|ff|agg|bP=>simp[PV.iN]at f
 |ptr id ab off a A g h=>simp[PV.iN,QB]at f;exact .ptr _ _ _ _ f (by rw[m id f];exact g) (λe=>by rw[s];exact h (by rw[e,m id f]))
 |ref cs ad vs y d h=>exact .ref cs ad vs y (λi u l=>⟨(d i u l).1,λq=>(d i u l).2 (r _ q)⟩) (λi p u j l=>(h i p u j l).mono hs (Gh.le.refl _))
 |sl es ad c k vs hk y d h F t=>exact .sl es ad c k vs hk y (λi u l=>⟨(d i u l).1,λq=>(d i u l).2 (r _ q)⟩) (λi p u j l=>(h i p u j l).mono hs (Gh.le.refl _)) F t
 |slnil=>exact .slnil
 |own id ab a n c A g h=>simp[PV.iN,QB]at f;exact .own _ _ _ _ _ f (by rw[m id f];exact g) (λe=>by rw[s];exact h (by rw[e,m id f]))
 |ct id ab k i off a A g h=>simp[PV.iN,QB]at f;exact .ct _ _ _ _ _ _ f (by rw[m id f];exact g) (λe=>by rw[s];exact h (by rw[e,m id f]))
 |view id ab k lo n a c A g h=>simp[PV.iN,QB]at f;exact .view _ _ _ _ _ _ _ f (by rw[m id f];exact g) (λe=>by rw[s];exact h (by rw[e,m id f]))
 |qq=>exact .qq
 |rW T v=>exact .rW T v
 |fF T x v j h=>exact .fF T x v j (h.plain j)
 |gl ks us b es J H B hk D h1 I=>exact .gl ks us b es J H (λq=>B (r _ q)) hk D (λi p e j z=>(h1 i p e j z).mono hs (Gh.le.refl _)) (λi p e j z=>(I i p e j z).mono hs (Gh.le.refl _))
def aJ.under{M M':Nat->Prop}{G G':Gh}{x:PV}{v:Va}(d:x.under G'.N=true)(j:∀b,M' b->M b)(k:G'.L=G.L)(g:∀id,id<G'.N->G'.V id=G.V id)(h:aJ w M G x v):aJ w M' G' x v:=by
 have go:∀{cs:Z PV} {vs:Z Va},cs.all (PV.iN G'.N)=true->aK w M G cs vs->aK w M' G' cs vs:=λm h=>⟨h.1,λi y v e l=>(h.2 i y v e l).iN (Qe.1 m y (QG e)) j k g⟩
 cases x with
 |agg cs=>obtain⟨vs,rfl,c⟩:=h.lU;have:=go (by simpa[PV.under]using d) c;exact .agg _ _ this.1 this.2
 |bP cs=>obtain⟨vs,rfl,c⟩:=h.zI;have:=go (by simpa[PV.under]using d) c;exact .bP _ _ this.1 this.2
 |aQ f cs=>obtain⟨vs,rfl,c⟩:=h.oX;have:=go (by simpa[PV.under]using d) c;exact .aQ _ _ _ this.1 this.2
 |ff f cs=>obtain⟨vs,rfl,c⟩:=h.HO;have:=go (by simpa[PV.under]using d) c;exact .ff _ _ _ this.1 this.2
 |_=>exact h.iN (by simpa[PV.under]using d) j k g
end
end
section
open Go.RowKit
def aM.bw:aM->Z Nat
 | .tmp t=>[t]
 | .ik _=>[]
def bV.bw:bV->Z Nat
 | .dU x| .box x| .C7 x| .load _ x| .sw _ x| .not x| .conv _ x| .len _ x| .ug x| .sx _ x| .so _ x
 | .clear _ _ x
 | .Iu _ _ x=>x.bw
 | .pick c x y=>c.bw++x.bw++y.bw
 | .alloc _=>[]
 | .store _ p x=>p.bw++x.bw
 | .build _ ps=>ps.flatMap λp=>p.2.2.bw
 | .GW _ _ _ _ ps=>ps.flatMap λp=>p.2.bw
 | .mE _ x i| .uq _ _ x i=>x.bw++i.bw
 | .bin _ x y| .ox _ x y| .CY _ _ x y| .GK _ x y| .rX _ x y| .Db _ _ _ _ x y
 =>x.bw++y.bw
 | .call _ xs=>xs.flatMap aM.bw
 | .jS f xs=>f.bw++xs.flatMap aM.bw
 | .bm _ _ _ _ s x=>s.bw++x.bw
 | .Ik _ b| .Il _ b| .lz _ b=>b.flatMap aM.bw
 | .Ga _ _ _ _ l c=>l.bw++c.bw
 | .B9 _ x lo hi=>x.bw++(match lo with|some l=>l.bw|none=>[])++(match hi with|some h=>h.bw|none=>[])
def SG.bw(g:SG):Z Nat:=(match g.g with|some (t,_)=>[t]|none=>[])++g.op.bw
def pw:PV->Z Nat
 | .own id _| .ptr id _ _| .ct id _ _ _ _| .view id _ _ _ _=>[id]
 |_=>[]
def dD(H:Nat->dq):Nat->PV->Z Nat
 |0,_=>[]
 |n+1,.own id _=>id::(match(H id).c with| .row _ _ es=>es.flatMap (λe=>e.flatMap (dD H n))|_=>[])
 |n+1,.ptr id _ _=>id::(match(H id).c with| .box cs=>cs.flatMap (dD H n)|_=>[])
 |n+1,.agg cs|n+1,.bP cs|n+1,.aQ _ cs|n+1,.ff _ cs=>cs.flatMap (dD H n)
 |_+1,_=>[]
def eK(nid:Nat)(S:St):bV->Z Nat
 | .load _ p| .sw _ p| .ug p| .store _ p _=>pw (p.val S)
 | .mE _ x _| .uq _ _ x _| .len false x| .so _ x| .B9 _ x _ _
 | .clear _ _ x
 =>pw (x.val S)
 | .box _| .alloc _| .GW ..| .Ga ..=>[nid]
 | .bm _ _ _ _ s x=>nid::(pw (s.val S)++pw (x.val S))
 | .call _ xs=>nid::(xs.map (·.val S)).flatMap (dD S.H 9)
 | .jS f xs=>nid::(dD S.H 10 (f.val S)++(xs.map (·.val S)).flatMap (dD S.H 9))
 |_=>[]
section
variable{Γ:gL}{S S':St}{nid:Nat}
theorem aM.val_congr{x:aM}(h:∀t∈x.bw,S'.env t=S.env t):x.val S'=x.val S:=by
 cases x with
 |tmp t=>exact h t (by simp[aM.bw])
 |ik v=>rfl
theorem my{xs:Z aM}(h:∀t∈xs.flatMap aM.bw,S'.env t=S.env t):xs.map (·.val S')=xs.map (·.val S):=
 QW λx b=>aM.val_congr λt c=>h t (qaq.2 ⟨x,b,c⟩)
def JT{H b:Nat->dq}{ex:Y Nat}:∀(n:Nat) (x:PV),(∀id∈dD H n x,b id=H id)->fz b ex n x=fz H ex n x
 |0,x,_=>by cases x<;>simp[fz]
 |n+1,x,h=>by
  have go:∀cs:Z PV,(∀id∈cs.flatMap (dD H n),b id=H id)->cs.map (fz b ex n)=cs.map (fz H ex n):=λcs c=>QW λy d=>JT n y λid g=>c id (qaq.2 ⟨y,d,g⟩)
  cases x with
  |own id ab=>
   have j:b id=H id:=h id (by simp[dD])
   simp[fz,j];split
   .rfl
   .cases c:(H id).c with
    |row e k es=>
     simp only;congr 1;refine QW λy d=>go y λi hi=>h i ?_
     simp only[dD,c,Qk];exact .inr (qaq.2 ⟨y,d,hi⟩)
    |dead|box cs=>rfl
  |ptr id ab off=>
   have j:b id=H id:=h id (by simp[dD])
   simp[fz,j];split
   .rfl
   .cases c:(H id).c with
    |box cs=>simp only;rw[go cs λi hi=>h i (by simp only[dD,c,Qk];exact .inr hi)]
    |dead|row e k es=>rfl
  |agg cs|bP cs|aQ f cs=>simp only[fz];rw[go cs (by simpa[dD]using h)]
  |_=>simp[fz]
theorem yE{H c:Nat->dq}{ex:Y Nat}{xs:Z PV}(h:∀id∈xs.flatMap (dD H 9),c id=H id):xs.map (fz c ex 9)=xs.map (fz H ex 9):=
 QW λy d=>JT 9 y λid b=>h id (qaq.2 ⟨y,d,b⟩)
theorem C5{f:FI}{args:Z PV}(b:S'.H nid=S.H nid)(h:∀id∈args.flatMap (dD S.H 9),S'.H id=S.H id):gA Γ nid S' f args=gA Γ nid S f args:=by
 have NL:∀(m:Model) (e k:Nat),tV m e k S' args=tV m e k S args:=by
  intro m e k;unfold tV
  cases args with
  |nil=>rfl
  |cons x rest=>
   cases x with
   |own id ab=>grind [dD,fz,yE]
   |_=>rfl
 have GP:∀(m:Model) (e k:Nat),tU m e k S' args=tU m e k S args:=by
  intro m e k;unfold tU
  cases args with
  |nil=>rfl
  |cons x rest=>
   cases x with
   |own id ab=>grind [dD,fz,yE]
   |_=>rfl
 unfold gA
 cases hm:Γ f with
 |none=>rfl
 |some m=>
  simp[NL,GP,Ao,b,yE (ex:=none) h];split
  .rfl
  .rfl
  .rfl
  split
  .rfl
  split
  .cases d:args[m.pos]? with
   |none=>rfl
   |some x=>
    cases x with
    |ptr id ab off=>
     cases off with
     |zero=>
      have c:PV.ptr id ab 0∈args:=QG d;have g:S'.H id=S.H id:=h id (qaq.2 ⟨_,c,by simp[dD]⟩)
      grind [cutAt,fz,yE]
     |succ k=>rfl
    |_=>rfl
  .rfl
def CU:∀(ps:Z (Nat×Nat×aM)) (cs:Z PV),(∀t∈ps.flatMap (λp=>p.2.2.bw),S'.env t=S.env t)->lS S' cs ps=lS S cs ps
 |[],cs,_=>rfl
 |(off,n,x)::ps,cs,h=>by
  have c:x.val S'=x.val S:=aM.val_congr λt b=>h t (by simp[b])
  simp[lS,c];split
  .exact CU ps _ λt b=>h t (by simp only[List.flatMap_cons,Qr];exact .inr b)
  .rfl
def CV(k:Nat):∀(ps:Z (Nat×aM)) (es:Z (Z PV)),(∀t∈ps.flatMap (λp=>p.2.bw),S'.env t=S.env t)->ow S' k es ps=ow S k es ps
 |[],es,_=>rfl
 |(i,x)::ps,es,h=>by
  have c:x.val S'=x.val S:=aM.val_congr λt b=>h t (by simp[b])
  simp[ow,c];split
  .exact CV k ps _ λt b=>h t (by simp only[List.flatMap_cons,Qr];exact .inr b)
  .rfl
theorem zF{x:PV}(h:∀id∈pw x,S'.H id=S.H id):gQ S' x=gQ S x:=by
 cases x with
 |own id ab|view id ab k lo n=>have b:S'.H id=S.H id:=h id (by simp[pw]);simp[gQ,b]
 |_=>rfl
def F1{y:Y aM}{d:Int}(h:∀l,y=some l->l.val S'=l.val S):nc S' y d=nc S y d:=by
 cases y with
 |none=>rfl
 |some l=>simp[nc,h l rfl]
theorem MB{op:bV}(j:∀t∈op.bw,S'.env t=S.env t)(g:∀id∈eK nid S op,S'.H id=S.H id):exec Γ nid S' op=exec Γ nid S op:=by
 cases op with
 |dU x|not x|conv k x|Iu n off x|sx i x=>simp[exec,aM.val_congr (x:=x) j]
 |pick c x y|bin op x y|ox n x y|GK n x y|CY n ks x y|Db e n len k x y=>grind [aM.val_congr,bV.bw,exec]
 |box x=>
  have r:x.val S'=x.val S:=aM.val_congr j
  grind [eK,exec]
 |C7 x=>have r:x.val S'=x.val S:=aM.val_congr j;simp[exec,r]
 |alloc z=>grind [eK,exec]
 |load n p=>
  have r:p.val S'=p.val S:=aM.val_congr j;simp[exec,r];simp[eK]at g
  cases A:p.val S with
  |ptr id ab off|ct id ab k i off=>rw[A]at g;have u:S'.H id=S.H id:=g id (by simp[pw]);simp[u]
  |_=>rfl
 |store n p x=>
  have r:p.val S'=p.val S:=aM.val_congr λt h=>j t (by simp[bV.bw,h])
  have u:x.val S'=x.val S:=aM.val_congr λt h=>j t (by simp[bV.bw,h])
  simp[exec,r,u];simp only[eK]at g
  cases A:p.val S with
  |ptr id ab off|ct id ab k i off=>rw[A]at g;have B:S'.H id=S.H id:=g id (by simp[pw]);simp[B]
  |_=>rfl
 |build z ps=>simp[exec,CU ps z j]
 |GW m e k z ps=>
  have u:S'.H nid=S.H nid:=g nid (by simp[eK])
  simp[exec,CV k ps z j,u]
 |sw off p=>
  have r:p.val S'=p.val S:=aM.val_congr j;simp[exec,r];simp[eK]at g
  cases A:p.val S with
  |ptr id ab off|ct id ab k i off=>rw[A]at g;have u:S'.H id=S.H id:=g id (by simp[pw]);simp[u]
  |_=>rfl
 |mE k x i=>
  have r:x.val S'=x.val S:=aM.val_congr λt h=>j t (by simp[bV.bw,h])
  have u:i.val S'=i.val S:=aM.val_congr λt h=>j t (by simp[bV.bw,h])
  simp[exec,r,u];simp[eK]at g
  cases A:x.val S with
  |own id ab|view id ab k lo n=>rw[A]at g;have B:S'.H id=S.H id:=g id (by simp[pw]);simp[B]
  |_=>rfl
 |uq k len x i=>
  have r:x.val S'=x.val S:=aM.val_congr λt h=>j t (by simp[bV.bw,h])
  have u:i.val S'=i.val S:=aM.val_congr λt h=>j t (by simp[bV.bw,h])
  simp[exec,r,u];simp[eK]at g
  cases A:x.val S with
  |ptr id ab off=>rw[A]at g;have B:S'.H id=S.H id:=g id (by simp[pw]);simp[B]
  |_=>rfl
 |lz q xs=>simp only[exec,my j]
 |len b x=>
  have r:x.val S'=x.val S:=aM.val_congr j
  cases b with
  |true=>simp[exec,r]
  |false=>simp[exec,r];rw[zF (by simpa[eK]using g)]
 |call f xs=>simp only[exec,my j];exact C5 (g nid (by simp[eK])) λid F=>g id (by simp only[eK,Qk];exact .inr F)
 |jS N xs=>
  have r:N.val S'=N.val S:=aM.val_congr λt h=>j t (by simp[bV.bw,h])
  have u:xs.map (·.val S')=xs.map (·.val S):=my λt h=>j t (by simp only[bV.bw,Qr];exact .inr h)
  simp[exec,r,u];simp[eK]at g
  cases A:N.val S with
  |aQ f D|ff f first=>grind [C5,dD]
  |_=>rfl
 |bm z e k b s x=>
  have r:s.val S'=s.val S:=aM.val_congr λt h=>j t (by simp[bV.bw,h])
  have u:x.val S'=x.val S:=aM.val_congr λt h=>j t (by simp[bV.bw,h])
  have B:S'.H nid=S.H nid:=g nid (by simp[eK])
  have K:gQ S' (x.val S)=gQ S (x.val S):=zF λid F=>g id (by simp[eK,F])
  simp[exec,r,u,B,K]
  cases A:s.val S with
  |own id ab=>have J:S'.H id=S.H id:=g id (by simp[eK,A,pw]);simp[J]
  |_=>rfl
 |ug x=>
  have r:x.val S'=x.val S:=aM.val_congr j;simp[exec,r];simp[eK]at g
  cases A:x.val S with
  |ptr id ab off|ct id ab k i off=>rw[A]at g;have u:S'.H id=S.H id:=g id (by simp[pw]);simp[u]
  |_=>rfl
 |Ik f D|Il f D=>simp[exec,my j]
 |Ga e k b z l c=>grind [aM.val_congr,bV.bw,eK,exec]
 |B9 k x lo hi=>
  have r:x.val S'=x.val S:=aM.val_congr λt h=>j t (by simp[bV.bw,h])
  have u:∀l,lo=some l->l.val S'=l.val S:=λl H=>aM.val_congr λt h=>j t (by simp[bV.bw,H,h])
  have B:∀l,hi=some l->l.val S'=l.val S:=λl H=>aM.val_congr λt h=>j t (by simp[bV.bw,H,h])
  simp[eK]at g;simp[exec,r];have K:∀d,nc S' lo d=nc S lo d:=λd=>F1 u
  have J:∀d,nc S' hi d=nc S hi d:=λd=>F1 B
  cases A:x.val S with
  |own id ab|view id ab k lo n=>rw[A]at g;have I:S'.H id=S.H id:=g id (by simp[pw]);simp[K,J,I]
  |sl es=>cases lo<;>cases hi<;>simp_all
  |_=>rfl
 |clear k z x=>
  have r:x.val S'=x.val S:=aM.val_congr j;simp[eK]at g;simp[exec,r]
  cases A:x.val S with
  |view id ab k lo n=>rw[A]at g;have I:S'.H id=S.H id:=g id (by simp[pw]);simp[I]
  |_=>rfl
 |rX m x y=>
  have r:x.val S'=x.val S:=aM.val_congr λt h=>j t (by simp[bV.bw,h])
  have u:y.val S'=y.val S:=aM.val_congr λt h=>j t (by simp[bV.bw,h])
  simp[exec,r,u]
 |so n x=>
  have r:x.val S'=x.val S:=aM.val_congr j
  grind [gQ,zF,eK,exec]
def oV{α β:Type}{f g:α->Z β}:∀{l:Z α},(∀x∈l,f x=g x)->l.flatMap f=l.flatMap g
 |[],_=>rfl
 |x::l,h=>by simp[List.flatMap_cons];rw[h x t_,oV λy b=>h y (by simp[b])]
theorem AK{H b:Nat->dq}:∀(n:Nat) (x:PV),(∀id∈dD H n x,b id=H id)->dD b n x=dD H n x
 |0,x,_=>by simp[dD]
 |n+1,x,h=>by
  have go:∀cs:Z PV,(∀id∈cs.flatMap (dD H n),b id=H id)->cs.flatMap (dD b n)=cs.flatMap (dD H n):=λcs c=>oV λy d=>AK n y λid g=>c id (qaq.2 ⟨y,d,g⟩)
  cases x with
  |own id ab=>
   have j:b id=H id:=h id (by simp[dD])
   simp only[dD,j]
   cases c:(H id).c with
   |row e k es=>
    simp only;congr 1;refine oV λy d=>go y λi hi=>h i ?_
    simp only[dD,c,Qk];exact .inr (qaq.2 ⟨y,d,hi⟩)
   |dead|box cs=>rfl
  |ptr id ab off=>
   have j:b id=H id:=h id (by simp[dD])
   simp only[dD,j]
   cases c:(H id).c with
   |box cs=>simp only;rw[go cs λi hi=>h i (by simp only[dD,c,Qk];exact .inr hi)]
   |dead|row e k es=>rfl
  |agg cs|bP cs|aQ f cs|ff f cs=>simp[dD];exact go cs (by simpa[dD]using h)
  |_=>simp[dD]
theorem Em{H c:Nat->dq}{n:Nat}{xs:Z PV}(h:∀id∈xs.flatMap (dD H n),c id=H id):xs.flatMap (dD c n)=xs.flatMap (dD H n):=
 oV λy d=>AK n y λid b=>h id (qaq.2 ⟨y,d,b⟩)
theorem LH{op:bV}(c:∀t∈op.bw,S'.env t=S.env t)(h:∀id∈eK nid S op,S'.H id=S.H id):eK nid S' op=eK nid S op:=by
 cases op with
 |load n p|sw off p|ug p=>simp[eK,aM.val_congr (x:=p) c]
 |store n p x|mE k x i|uq k l x i|bm z e k b s x=>grind [aM.val_congr,bV.bw,eK]
 |so n x|clear k z x=>simp[eK,aM.val_congr (x:=x) c]
 |B9 k x lo hi=>
  have g:x.val S'=x.val S:=aM.val_congr λt d=>c t (by simp[bV.bw,d])
  simp[eK,g]
 |len b x=>
  cases b with
  |true=>rfl
  |false=>simp[eK,aM.val_congr (x:=x) c]
 |call f xs=>
  simp[eK,my c]
  grind [Em,eK]
 |jS j xs=>grind [aM.val_congr,bV.bw,my,eK,AK,Em]
 |_=>rfl
def oy(Γ:gL)(nid:Nat)(S:St)(g:SG):Y (PV×Y (Nat×dq)):=
 match g.wanted S with
 |some true=>exec Γ nid S g.op
 |some false=>some (.undef,none)
 |none=>none
def Ak(nid:Nat)(S:St)(g:SG):Z Nat:=
 match g.wanted S with
 |some true=>eK nid S g.op
 |_=>[]
def KO(g:SG):nC Γ nid S g=(oy Γ nid S g).map λp=>S.bm g.d p.1 p.2:=by grind [nC,oy]
theorem B4{g:SG}(b:∀t∈g.bw,S'.env t=S.env t):g.wanted S'=g.wanted S:=by grind [SG.wanted,SG.bw]
def C0{g:SG}(b:∀t∈g.bw,S'.env t=S.env t)(c:∀id∈Ak nid S g,S'.H id=S.H id):oy Γ nid S' g=oy Γ nid S g:=by grind [oy,B4,Ak,MB,SG.bw]
def CO{g:SG}(b:∀t∈g.bw,S'.env t=S.env t)(c:∀id∈Ak nid S g,S'.H id=S.H id):Ak nid S' g=Ak nid S g:=by grind [Ak,B4,LH,SG.bw]
structure ea where
 d:Option Nat
 us:List Nat
 rd:List Nat
 wr:Option Nat
structure BB (p q:ea):Prop where
 d1:∀t,p.d=some t->t∉q.us
 d2:∀t,q.d=some t->t∉p.us
 dd:∀t,p.d=some t->q.d≠some t
 w1:∀i,p.wr=some i->i∉q.rd
 w2:∀i,q.wr=some i->i∉p.rd
 ww:∀i,p.wr=some i->q.wr≠some i
def py(nid:Nat)(S:St)(g:SG)(p:PV×Y (Nat×dq)):ea:=⟨g.d,g.bw,Ak nid S g,p.2.map (·.1)⟩
def dS(Γs:Nat->gL)(base:Nat):Z (Nat×SG)->St->Y (St×Z ea)
 |[],S=>some (S,[])
 |(i,g)::l,S=>
  match oy (Γs i) (base+i) S g with
  |none=>none
  |some p=>
   match dS Γs base l (S.bm g.d p.1 p.2)with
   |none=>none
   |some (S',fs)=>some (S',py (base+i) S g p::fs)
def St.fc(d:Y Nat)(x:PV)(wr:Y (Nat×dq)){t:Nat}(h:d≠some t):(S.bm d x wr).env t=S.env t:=by
 cases d with
 |none=>rfl
 |some d=>exact bo _ _ (λe=>h (by rw[e]))
def St.Bt(d:Y Nat)(x:PV)(wr:Y (Nat×dq)){i:Nat}(h:wr.map (·.1)≠some i):(S.bm d x wr).H i=S.H i:=by
 cases wr with
 |none=>rfl
 |some p=>exact bo _ _ (λe=>h (by rw[e];rfl))
theorem NX{α:Type}(f:Nat->α){i j:Nat}(x y:α)(h:i≠j):bd (bd f i x) j y=bd (bd f j y) i x:=by grind [bd]
def St.O2(d e:Y Nat)(x y:PV)(p q:Y (Nat×dq))(c:∀t,d=some t->e≠some t)(b:∀i,p.map (·.1)=some i->q.map (·.1)≠some i):(S.bm d x p).bm e y q=(S.bm e y q).bm d x p:=by
 unfold St.bm
 grind [NX]
def Ci{Γs:Nat->gL}{base:Nat}:∀(f:Z (Nat×SG)) (i:Nat) (g:SG) (y:Z (Nat×SG)) (S S':St) (fs:Z ea),dS Γs base (f++(i,g)::y) S=some (S',fs)->
  (∀(k:Nat) (fk fi:ea),k<f.length->fs[k]?=some fk->fs[f.length]?=some fi->BB fk fi)->
  ∃p,oy (Γs i) (base+i) S g=some p/\(∀fi,fs[f.length]?=some fi->fi=py (base+i) S g p)/\dS Γs base (f++y) (S.bm g.d p.1 p.2)=some (S',fs.eraseIdx f.length)
 |[],i,g,y,S,S',fs,h,_=>by
  simp[List.nil_append,dS]at h;split at h
  .cases h
  .rename_i p Q;split at h
   .cases h
   .rename_i S1 d I;injection h with h
    injection h with F H
    subst F H;exact⟨p,Q,λfi c=>by simp at c;exact c.symm,by simpa using I⟩
 |(x,m)::f,i,g,y,S,S',fs,h,hi=>by
  simp[List.cons_append,dS]at h;split at h
  .cases h
  .rename_i px K;split at h
   .cases h
   .rename_i S1 d I;injection h with h
    injection h with F H
    subst F H
    let⟨p,Q,T,r⟩:=Ci f i g y (S.bm m.d px.1 px.2) S1 d I (λk fk fi hk U c=>hi (k+1) fk fi o_ (by simpa using U) (by simpa using c))
    have n:f.length<d.length:=by
     have:∀(l:Z (Nat×SG)) (S:St) (S':St) (fs:Z ea),dS Γs base l S=some (S',fs)->fs.length=l.length:=by
      intro l
      induction l with
      |nil=>intro S S' fs h;simp only[dS,Qb,QY]at h;rw[<-h.2];rfl
      |cons q l ih=>
       intro S S' fs h
       let⟨j,gj⟩:=q
       simp[dS]at h;split at h
       .cases h
       .split at h
        .cases h
        .rename_i S2 fs2 F;injection h with h
         injection h with H h4
         subst h4;simp[ih _ _ _ F]
     rw[this _ _ _ _ I];simp
    have c:=T _ (Qv n);have b:=hi 0 (py (base+x) S m px) _ t_ t_ (show(py (base+x) S m px::d)[f.length+1]?=some d[f.length]by rw[List.getElem?_cons_succ];exact Qv n)
    rw[c]at b;have V:∀t∈g.bw,S.env t=(S.bm m.d px.1 px.2).env t:=λt J=>(St.fc _ _ _ (λe=>b.d1 t e J)).symm
    have W:∀id∈Ak (base+i) (S.bm m.d px.1 px.2) g,S.H id=(S.bm m.d px.1 px.2).H id:=λid s=>(St.Bt _ _ _ (λe=>b.w1 id e s)).symm
    have N:oy (Γs i) (base+i) S g=some p:=(C0 V W).trans Q;have R:=CO (nid:=base+i) V W;have B:∀t∈m.bw,(S.bm g.d p.1 p.2).env t=S.env t:=λt J=>St.fc _ _ _ (λe=>b.d2 t e J)
    have D:∀id∈Ak (base+x) S m,(S.bm g.d p.1 p.2).H id=S.H id:=λid s=>St.Bt _ _ _ (λe=>b.w2 id e s)
    have z:oy (Γs x) (base+x) (S.bm g.d p.1 p.2) m=some px:=(C0 B D).trans K;have A:=CO (nid:=base+x) B D;have u:(S.bm g.d p.1 p.2).bm m.d px.1 px.2=(S.bm m.d px.1 px.2).bm g.d p.1 p.2:=(St.O2 _ _ _ _ _ _ b.dd b.ww).symm;refine⟨p,N,λfi hf=> ?_,?_⟩
    .have:fi=d[f.length]:=by
      have X:(py (base+x) S m px::d)[f.length+1]?=some fi:=by simpa using hf
      simp[List.getElem?_cons_succ,Qv n,Qb]at X;exact X.symm
     rw[this,c];simp[py,R]
    .simp only[List.cons_append,dS,z,u,r,QV,List.eraseIdx_cons_succ];congr 2;simp only[py,A]
end
section
variable{P:Pr}{E:En}{Γ:gL}{hs:Z Nat}
def tb(M i:Nat):Bool:=Nat.beq (Nat.land 1 (Nat.shiftRight M i)) 1
def Dn(M i:Nat):tb M i=M.testBit i:=by
 have h:Nat.land 1 (Nat.shiftRight M i)=1&&&(M>>>i):=rfl;have b:1&&&(M>>>i)<2:=Nat.lt_succ_of_le Nat.and_le_left;rw[tb,h];show _=(1&&&(M>>>i) !=0);generalize 1&&&(M>>>i)=x at b
 match x,b with
 |0,_|1,_=>rfl
def getM:Z Nat->Nat->Nat
 |[],_=>0
 |x::_,0=>x
 |_::l,n+1=>getM l n
def tN:∀(l:Z Nat) (n:Nat),getM l n=l.getD n 0
 |[],n=>by simp[getM]
 |x::l,0=>rfl
 |x::l,n+1=>by rw[getM,tN l n];rfl
def wK(b:Z Nat):Z Edge->Nat
 |[]=>0
 |e::l=>(match Region.binds .any e with|true=>Nat.lor (Nat.lor (Nat.shiftLeft 1 e.on) (getM b e.on)) (wK b l)|false=>wK b l)
def xL:Z Oper->Z Nat->Z Nat
 |[],acc=>acc
 |o::l,acc=>xL l (acc++[wK acc o.after.toList])
def Kv(i j:Nat):(1<<<i).testBit j=decide (j=i):=by
 rw[Nat.one_shiftLeft,Nat.testBit_two_pow]
 grind
def Bm{b:Z Nat}{R:Nat->Prop}(f:∀k,R k->∀j,tb (getM b k) j=true->R j):∀(l:Z Edge),(∀e∈l,Region.binds .any e=true->R e.on)->∀j,tb (wK b l) j=true->R j
 |[],_,j,h=>by rw[Dn]at h;simp[wK]at h
 |e::l,d,j,h=>by
  rw[wK]at h;split at h
  .rename_i i;rw[Dn,show Nat.lor (Nat.lor (Nat.shiftLeft 1 e.on) (getM b e.on)) (wK b l)=((1<<<e.on)|||getM b e.on)|||wK b l from rfl,Nat.testBit_or,Nat.testBit_or,Qx,Qx,Kv,QB]at h
   rcases h with(h|h)|h
   .rw[h];exact d e Qy i
   .exact f e.on (d e Qy i) j (by rw[Dn];exact h)
   .exact Bm f l (λg c=>d g (QC _ c)) j (by rw[Dn];exact h)
  .exact Bm f l (λg c=>d g (QC _ c)) j h
def Kj:∀(l:Z Oper) (b:Z Nat) (k:Nat),k<b.length->getM (xL l b) k=getM b k
 |[],_,_,_=>rfl
 |o::l,b,k,h=>by
  rw[xL,Kj l _ k (by rw[QZ];omega),tN,tN]
  simp[qaS,List.getElem?_append_left h]
def Lo{R:Nat->Prop}:∀(l:Z Oper) (b:Z Nat),(∀k,R k->∀j,tb (getM b k) j=true->R j)->(∀k o,l[k]?=some o->R (b.length+k)->∀e∈o.after.toList,Region.binds .any e=true->R e.on)->
  ∀i o,l[i]?=some o->(∀e∈o.after.toList,Region.binds .any e=true->R e.on)->∀j,tb (getM (xL l b) (b.length+i)) j=true->R j
 |[],_,_,_,i,o,hi,_,_,_=>by simp at hi
 |o::l,b,g,n,0,p,hi,he,j,h=>by
  injection hi with hi
  subst hi;rw[xL,Kj l _ _ t_,tN]at h;simp[qaS]at h;exact Bm g _ he j h
 |o::l,b,g,n,i+1,p,hi,he,j,h=>by
  rw[xL]at h;refine Lo l (b++[wK b o.after.toList]) (λk r j c=> ?_) (λk q t s=>n (k+1) q t (by rw[QZ,qbC]at s;rw[show b.length+(k+1)=b.length+1+k by omega];exact s)) i p hi he j (by rw[QZ,qbC,show b.length+1+i=b.length+(i+1)by omega];exact h)
  rw[tN,qaS]at c;rcases qat k b.length with d|f
  .rw[List.getElem?_append_left d]at c;exact g k r j (by rw[tN,qaS];exact c)
  .rw[List.getElem?_append_right f]at c;rcases qa0 f with d|m
   .rw[qaT o_]at c;rw[Dn]at c;simp at c
   .subst m;rw[Nat.sub_self]at c;exact Bm g _ (n 0 o rfl r) j c
def FG(M j:Nat):Nat->Z (Nat×Nat)->Z (Nat×Nat)
 |0,l=>l
 |i+1,l=>FG M j i (match tb M i with|true=>l|false=>(i,j)::l)
def I6:Z Nat->Nat->Z (Nat×Nat)
 |[],_=>[]
 |M::l,j=>FG M j j (I6 l (Nat.succ j))
def wU(ops:Z Oper):Z (Nat×Nat):=I6 (xL ops []) 0
def Cp{M j:Nat}:∀(n:Nat) (l:Z (Nat×Nat)),(∀p∈l,p∈FG M j n l)/\∀i,i<n->tb M i=false->(i,j)∈FG M j n l
 |0,l=>⟨λp b=>b,λi hi=>absurd hi (qaU _)⟩
 |n+1,l=>by
  rw[FG];have h:=Cp (M:=M) (j:=j) n (match tb M n with|true=>l|false=>(n,j)::l)
  refine⟨λp b=>h.1 p ?_,λi hi d=> ?_⟩
  .split
   .exact b
   .exact QC _ b
  .rcases qa0 (Nat.le_of_lt_succ hi)with c|rfl
   .exact h.2 i c d
   .refine h.1 _ ?_;rw[d];exact Qy
def Gb{i:Nat}:∀(l:Z Nat) (j k:Nat),k<l.length->i<j+k->tb (getM l k) i=false->(i,j+k)∈I6 l j
 |[],_,_,h,_,_=>by simp at h
 |M::l,j,0,_,hi,b=>(Cp j _).2 i hi b
 |M::l,j,k+1,hk,hi,b=>by
  have:=Gb l (Nat.succ j) k (by simpa using hk) O b
  rw[show Nat.succ j+k=j+(k+1)by omega]at this
  exact(Cp j _).1 _ this
def Ki:∀(l:Z Oper) (b:Z Nat),(xL l b).length=b.length+l.length
 |[],_=>rfl
 |o::l,b=>by rw[xL,Ki l];simp;omega
def lR(g h:SG):Bool:=
 (match g.d with|some t=> !h.bw.contains t&&h.d !=some t|none=>true)&&(match h.d with|some t=> !g.bw.contains t|none=>true)
def Ai(p q:ea):Bool:=
 (match p.wr with|some i=> !q.rd.contains i&&q.wr !=some i|none=>true)&&(match q.wr with|some i=> !p.rd.contains i|none=>true)
def GQ(ops:Z Oper)(b:Z SG):Y (Z (Nat×Nat)):=
 let un:=wU ops
 if un.all (λp=>match b[p.1]?,b[p.2]? with|some g,some h=>lR g h|_,_=>false)&&ops.zipIdx.all (λp=>p.1.after.toList.all λe=> !Region.binds .any e||decide (e.on<p.2))then
  some un
 else none
def Hg(Γs:Nat->gL)(base:Nat)(un:Z (Nat×Nat))(c:Z SG)(S:St):Y St:=
 match dS Γs base (c.zipIdx.map λp=>(p.2,p.1)) S with
 |none=>none
 |some (S',fs)=>if un.all (λp=>match fs[p.1]?,fs[p.2]? with|some a,some b=>Ai a b|_,_=>false)then some S' else none
def wV{Γs:Nat->gL}{base:Nat}:∀(l:Z (Nat×SG)) (S S':St) (fs:Z ea),dS Γs base l S=some (S',fs)->fs.length=l.length/\∀(k i:Nat) (g:SG) (f:ea),l[k]?=some (i,g)->fs[k]?=some f->f.d=g.d/\f.us=g.bw
 |[],S,S',fs,h=>by simp only[dS,Qb,QY]at h;rw[<-h.2];exact⟨rfl,λk i g f b=>by simp at b⟩
 |(j,t)::l,S,S',fs,h=>by
  simp[dS]at h;split at h
  .cases h
  .rename_i p r;split at h
   .cases h
   .rename_i u q n;injection h with h
    injection h with s m
    subst m
    let⟨e,d⟩:=wV l _ _ _ n
    refine⟨by simp[e],λk i g f b c=> ?_⟩
    cases k with
    |zero=>simp[List.getElem?_cons_zero,Qb,QY]at b c;obtain⟨rfl,rfl⟩:=b;subst c;exact⟨rfl,rfl⟩
    |succ k=>exact d k i g f (by simpa using b) (by simpa using c)
def ic(c:Z SG)(b:Array Bool):Z (Nat×SG):=(c.zipIdx.map λp=>(p.2,p.1)).filter λp=> !b.getD p.1 true
def oa{c:Z SG}{b:Array Bool}{i:Nat}{g:SG}:(i,g)∈ic c b↔c[i]?=some g/\b.getD i true=false:=by
 unfold ic;simp only[List.mem_filter,Qs,QY,qba,QR]
 grind
def zf(c:Z SG)(b:Array Bool):(ic c b).Pairwise λp q=>p.1<q.1:=by
 unfold ic;refine List.Pairwise.filter _ ?_;rw[List.pairwise_map]
 have:∀(l:Z SG) (k:Nat),(l.zipIdx k).Pairwise λp q=>p.2<q.2:=by
  intro l
  induction l with
  |nil=>intro k;simp
  |cons x l d=>
   intro k;rw[List.zipIdx_cons,qad]
   grind
 exact this c 0
def Jq{d:Z SG}{b:Array Bool}{i:Nat}{g:SG}{e l2:Z (Nat×SG)}(hi:i<b.size)(h:ic d b=e++(i,g)::l2):ic d (b.setIfInBounds i true)=e++l2:=by
 have c:=zf d b;rw[h]at c
 have l:ic d (b.setIfInBounds i true)=(ic d b).filter λp=>decide (p.1≠i):=by
  unfold ic;rw[List.filter_filter];congr 1
  funext p
  by_cases f:p.1=i
  .rw[f];simp[Qq,qal hi]
  .have:(b.setIfInBounds i true).getD p.1 true=b.getD p.1 true:=by
    simp[Qq]
    grind
   rw[this];simp[f]
 rw[l,h,List.filter_append,List.filter_cons];simp[ne_eq,qaK,decide_false,QQ,QF];rw[qaz]at c
 let⟨_,s2,j⟩:=c
 rw[qad]at s2;rw[List.filter_eq_self.2,List.filter_eq_self.2]
 .grind
 .intro q k;have:=j q k (i,g) t_;simp only at this;simp;omega
structure uV (T:Nat->Bool) (gs:List SG) (listed:Array Bool) (l:List (Nat×SG)):Prop where
 mem:∀p,p∈l↔gs[p.1]?=some p.2/\listed.getD p.1 true=false/\T p.1=true
 nd:l.Pairwise λp q=>p.1≠q.1
def SN(c:Z SG)(b:Array Bool):uV (λ_=>true) c b (ic c b):=
 ⟨λp=>by rw[show p=(p.1,p.2)from rfl,oa];simp,(zf c b).imp λh=>qan h⟩
def xF{b:Array Bool}{m j:Nat}(h:j≠m):(b.setIfInBounds m true).getD j true=b.getD j true:=by simp[Qq];rw[qaP (λe=>h e.symm)]
def Is{b:Array Bool}{m:Nat}(h:m<b.size):(b.setIfInBounds m true).getD m true=true:=by rw[Qq,qal h];rfl
def uV.set{T:Nat->Bool}{r:Z SG}{b:Array Bool}{i:Nat}{g:SG}{k j:Z (Nat×SG)}(hi:i<b.size)(h:uV T r b (k++(i,g)::j)):uV T r (b.setIfInBounds i true) (k++j):=by
 obtain⟨hm,n⟩:=h;rw[qaz,qad]at n;obtain⟨u,⟨t,s⟩,m⟩:=n
 have l:∀p∈k++j,p.1≠i:=λp c=>by
  rcases Qr.1 c with c|c
  .exact m p c (i,g) Qy
  .exact(t p c).symm
 refine⟨λp=>⟨λc=> ?_,λ⟨h1,f,z⟩=> ?_⟩,qaz.2 ⟨u,s,λp c q y=>m p c q (QC _ y)⟩⟩
 .rw[xF (l p c)];exact(hm p).1 (by rcases Qr.1 c with c|c<;>simp[c])
 .have d:p.1≠i:=λe=>by rw[e,Is hi]at f;cases f
  rw[xF d]at f;have:=(hm p).2 ⟨h1,f,z⟩;rcases Qr.1 this with h|h
  .exact List.mem_append_left _ h
  .rcases Qk.1 h with h|h
   .exact absurd (QJ Prod.fst h) d
   .exact List.mem_append_right _ h
def gn(ops:Z Oper)(i j:Nat):Bool:=tb (getM (xL ops []) i) j
def Hb(ops:Z Oper)(l:Z (Nat×SG))(fs:Z ea):Prop:=
 ∀(a b:Nat) (p q:Nat×SG) (f h:ea),a<b->l[a]?=some p->l[b]?=some q->fs[a]?=some f->fs[b]?=some h->gn ops q.1 p.1=false->BB f h
structure sD (ops:Array Oper) (T:Nat->Bool) (listed:Array Bool):Prop where
 size:listed.size=ops.size
 cl:∀i o,ops[i]?=some o->listed.getD i true=true->∀e∈o.after,Region.binds .any e=true->listed.getD e.on true=true
 t:∀i,i<ops.size->T i=false->listed.getD i true=false
def Ck{ops:Array Oper}{T:Nat->Bool}{b:Array Bool}(s:sD ops T b)(g:∀i o,ops[i]?=some o->∀e∈o.after,Region.binds .any e=true->e.on<i){i:Nat}(hi:i∈Region.ready .any ops b):
  ∃h:i<ops.size,b.getD i true=false/\(∀e∈ops[i].after,Region.binds .any e=true->b.getD e.on true=true)/\∀j,gn ops.toList i j=true->b.getD j true=true:=by
 have t:=s.size;simp only[Region.ready,List.mem_filter,List.mem_range,Qa,QR]at hi;obtain⟨f,q,d⟩:=hi;have r:ops[i]?=some ops[i]:=qab f;rw[r]at d;simp only[Qn,qbk,qbD,Qx,QR]at d
 have c:∀e∈ops[i].after,Region.binds .any e=true->b.getD e.on true=true:=λe l m=>by
  rcases d e l with h1|h1
  .rw[m]at h1;cases h1
  .have u:=g i _ r e l m;rw[Qq]at h1 ⊢;rw[qab O]at h1 ⊢;simpa using h1
 refine⟨f,q,c,?_⟩;unfold gn;intro j n;refine Lo (R:=λj=>b.getD j true=true) ops.toList [] (λk _ j n=>by rw[Dn]at n;simp[getM]at n) (λk o p y e l m=>s.cl k o (by simpa using p) (by simpa using y) e (by simpa using l) m) i ops[i] (by simp[f]) (λe l m=>c e (by simpa using l) m) j (by simpa using n)
def sD.set{ops:Array Oper}{T u:Nat->Bool}{b:Array Bool}(h:sD ops T b)(c:∀i o,ops[i]?=some o->∀e∈o.after,Region.binds .any e=true->e.on<i){i:Nat}(hi:i∈Region.ready .any ops b)
  (D:∀j,j<ops.size->u j=false->T j=false/\j≠i):sD ops u (b.setIfInBounds i true):=by
 obtain⟨p,B,d,_⟩:=Ck h c hi;have z:=h.size;have s:ops[i]?=some ops[i]:=qab p;refine⟨by simpa using h.size,λk o m f e q r=> ?_,λj t y=> ?_⟩
 .by_cases l:k=i
  .subst l;rw[s]at m;injection m with m
   subst m;have A:=c k _ s e q r;have:=d e q r;simp[Qq]at this ⊢;rw[qaP O];exact this
  .have g:b.getD k true=true:=by
    simp[Qq]at f ⊢;rw[qaP (λe=>l e.symm)]at f
    exact f
   have:=h.cl k o m g e q r
   by_cases n:e.on=i
   .rw[n,Qq,qal O];rfl
   .simp[Qq]at this ⊢;rw[qaP (λe=>n e.symm)]
    exact this
 .let⟨h1,F⟩:=D j t y
  have:=h.t j t h1;simp[Qq]at this ⊢;rw[qaP (λe=>F e.symm)]
  exact this
def Li{ops:Array Oper}:∀(l:Z Oper) (r:Z SG),l.mapM (lB P hs ops)=some r->∀(k:Nat) (o:Oper) (g:SG),l[k]?=some o->r[k]?=some g->lB P hs ops o=some g:=by
 intro l
 induction l with
 |nil=>intro r _ k o g b;simp at b
 |cons x l c=>
  intro r f k o g b e;simp[QE,Qh,Qd,QN,Qb]at f;obtain⟨y,i,h,d,rfl⟩:=f
  cases k with
  |zero=>simp at b e;subst b e;exact i
  |succ k=>exact c h d k o g (by simpa using b) (by simpa using e)
def Bn{Γs:Nat->gL}(hΓ:∀i,fe P (Γs i)){ops:Array Oper}{d:Z SG}(hc:ops.toList.mapM (lB P hs ops)=some d)(hd:∀o∈ops.toList,∀t,o.dst=some t->E.can t)(s:∀i o,ops[i]?=some o->∀e∈o.after,Region.binds .any e=true->e.on<i)
  {base:Nat} {S':St} {Q:Exit->Act->Wo->Prop} (T:Nat->Bool)
  (hQ:(∀i,i<ops.size->T i=true)->∀a' w' L',Rel E S' a' w' L'->Q .normal a' w')
  (hO:∀(i c:Nat) (listed:Array Bool) (S:St) (a:Act) (w:Wo) (L:Nat->Va) (l:Z (Nat×SG)) (fs:Z ea),sD ops T listed->i∈Region.ready .any ops listed->T i=false->Rel E S a w L->base+ops.size<=S.N->uV T d listed l->dS Γs base l S=some (S',fs)->
   (ic d listed).length<=c+1->wpOpIn (WF E.rd) 0 P ops Q i (wpAnyIn (WF E.rd) 0 P .any ops Q c (listed.setIfInBounds i true)) a w):
  ∀(c:Nat) (listed:Array Bool) (S:St) (a:Act) (w:Wo) (L:Nat->Va) (l:Z (Nat×SG)) (fs:Z ea),sD ops T listed->
  Rel E S a w L->base+ops.size<=S.N->uV T d listed l->dS Γs base l S=some (S',fs)->Hb ops.toList l fs->(ic d listed).length<=c->wpAnyIn (WF E.rd) 0 P .any ops Q c listed a w:=by
 have hgl:d.length=ops.size:=by have:=lj hc;simpa using this
 have N:∀{listed:Array Bool} {S:St} {a:Act} {w:Wo} {L:Nat->Va} {l:Z (Nat×SG)} {fs:Z ea},sD ops T listed->ic d listed=[]->Rel E S a w L->uV T d listed l->dS Γs base l S=some (S',fs)->Q .normal a w:=by
  intro listed S a w L l fs I D h n b
  have hno:∀i,i<ops.size->listed.getD i true=true:=λi hi=>by
   cases H:listed.getD i true with
   |true=>rfl
   |false=>have:(i,d[i]'O)∈ic d listed:=oa.2 ⟨Qv O,H⟩;rw[D]at this;cases this
  have B:l=[]:=by rw[List.eq_nil_iff_forall_not_mem];intro p F;have:=(n.mem p).1 F;have:(p.1,p.2)∈ic d listed:=oa.2 ⟨this.1,this.2.1⟩;rw[D]at this;cases this
  rw[B]at b;simp[dS,Qb,QY]at b;rw[b.1]at h;refine hQ (λi hi=> ?_) a w L h
  cases ht:T i with
  |true=>rfl
  |false=>have:=I.t i hi ht;rw[hno i hi]at this;cases this
 intro c
 induction c with
 |zero=>intro listed S a w L l fs I h hN n b hap J;have D:ic d listed=[]:=qak O;refine⟨?_,N I D h n b⟩;rw[List.eq_nil_iff_forall_not_mem];intro i hi;simp only[Region.ready,List.mem_filter,List.mem_range,Qa,QR]at hi;obtain⟨h1,h2,_⟩:=hi;have:(i,d[i]'O)∈ic d listed:=oa.2 ⟨Qv O,h2⟩;rw[D]at this;cases this
 |succ c ih=>
  intro listed S a w L l fs I h hN n b hap J;have hsz:=I.size;refine⟨λhrd=> ?_,λi hi=> ?_⟩
  .
   have D:ic d listed=[]:=by
    rcases U:ic d listed with _|⟨⟨i,g⟩,l⟩
    .rfl
    .exfalso;have u:(i,g)∈ic d listed:=by rw[U];simp
     let⟨h1,h2⟩:=oa.1 u
     have A:i<ops.size:=by have:=(QL.1 h1).1;omega
     have hmin:∀j,j<i->listed.getD j true=true:=by
      intro j hj
      cases hlj:listed.getD j true with
      |true=>rfl
      |false=>
       have F:(j,d[j]'O)∈ic d listed:=oa.2 ⟨Qv O,hlj⟩;have hs:=zf d listed;rw[U,qad]at hs;rw[U]at F;rcases Qk.1 F with F|F
       .injection F with F;omega
       .have:=hs.1 _ F;simp only at this;omega
     have:i∈Region.ready .any ops listed:=by
      simp only[Region.ready,List.mem_filter,List.mem_range,Qa,QR];refine⟨A,h2,?_⟩;rw[qab A];simp only[Qn,qbk,qbD,Qx,QR];intro e he
      cases hb:Region.binds .any e with
      |false=>exact .inl rfl
      |true=>right;have hlt:=s i _ (qab A) e he hb;have:=hmin e.on hlt;rw[Qq]at this ⊢;rw[qab O]at this ⊢;simpa using this
     rw[hrd]at this;cases this
   exact N I D h n b
  .cases hTi:T i with
   |false=>exact hO i c listed S a w L l fs I hi hTi h hN n b J
   |true=>
   obtain⟨A,H,hpreT,hanc⟩:=Ck I s hi;have ho:ops[i]?=some ops[i]:=qab A;have W:d[i]?=some (d[i]'O):=Qv O;have u:(i,d[i]'O)∈l:=(n.mem _).2 ⟨W,H,hTi⟩;have V:(i,d[i]'O)∈ic d listed:=oa.2 ⟨W,H⟩;obtain⟨r,l2,rfl⟩:=List.append_of_mem u;obtain⟨k1,k2,q⟩:=List.append_of_mem V;have hfl:=(wV _ _ _ _ b).1
   let⟨p,D,_,R⟩:=Ci r i _ l2 S S' fs b (λk fk fi hk hfk hfi=>by
    have hk1:(r++(i,d[i]'O)::l2)[k]?=some r[k]:=by rw[List.getElem?_append_left hk];exact Qv hk
    refine hap k r.length r[k] (i,d[i]'O) fk fi hk hk1 t_ hfk hfi ?_
    cases hb:gn ops.toList i r[k].1 with
    |false=>rfl
    |true=>
     have h1:=hanc _ hb;have h3:=(n.mem r[k]).1 (by simp[qar])
     rw[h3.2.1]at h1
     cases h1)
   have hcog:lB P hs ops ops[i]=some (d[i]'O):=Li _ _ hc i _ _ t_ W;have hstp:nC (Γs i) (base+i) S (d[i]'O)=some (S.bm (d[i]'O).d p.1 p.2):=by rw[KO,D];rfl
   have m:=qO (K:=wpAnyIn (WF E.rd) 0 P .any ops Q c (listed.setIfInBounds i true)) (Q:=Q) (hΓ i) hcog h (nid:=base+i) O (hd _ t_) hstp (λa' w' L' h'=>by
    refine ih _ _ a' w' L' (r++l2) (fs.eraseIdx r.length) (I.set s hi λj _ ht=>⟨ht,λe=>by rw[e,hTi]at ht;cases ht⟩) h' hN (n.set O) R ?_ ?_
    .intro x y p' q' f h0 hxy B hq' hf hh hanc'
     have hget:∀(z:Nat),(r++l2)[z]?=(r++(i,d[i]'O)::l2)[if z<r.length then z else z+1]?:=by
      intro z;split
      .rename_i hz;rw[List.getElem?_append_left hz,List.getElem?_append_left hz]
      .rename_i hz;rw[List.getElem?_append_right O,List.getElem?_append_right O];have:z+1 - r.length=(z - r.length)+1:=O;rw[this,List.getElem?_cons_succ]
     have X:∀(z:Nat),(fs.eraseIdx r.length)[z]?=fs[if z<r.length then z else z+1]?:=by intro z;rw[List.getElem?_eraseIdx];split<;>rfl
     rw[hget]at B hq';rw[X]at hf hh;refine hap _ _ p' q' f h0 ?_ B hq' hf hh hanc';split<;>split<;>omega
    .rw[Jq O q];rw[q]at J;simp at J ⊢
     omega)
   unfold wpOpIn;rw[ho];simp only;split
   .rename_i hw;rw[Qc hw]at m;exact m
   .rename_i hw;rw[Qf hw]at m;exact m
def uh{ops:Z Oper}{i j:Nat}(b:j<ops.length)(c:i<j)(h:gn ops j i=false):(i,j)∈wU ops:=by
 unfold gn at h;have:=Gb (xL ops []) 0 j (by rw[Ki];simpa using b) O h
 rwa [qam]at this
def Bi{g h:SG}{f e:ea}(k:f.d=g.d/\f.us=g.bw)(l:e.d=h.d/\e.us=h.bw)(c:lR g h=true)(hi:Ai f e=true):BB f e:=by
 unfold lR at c;unfold Ai at hi;rw[Qa]at c hi
 let⟨m,a2⟩:=c
 let⟨i1,i2⟩:=hi
 refine⟨λt d=> ?_,λt d=> ?_,λt d j=> ?_,λi b=> ?_,λi b=> ?_,λi b j=> ?_⟩
 .grind
 .grind
 .grind
 .grind
 .grind
 .rw[b,j]at i1;simp at i1
def Jr(b:Z SG)(n:Nat)(d:b.length=n):ic b (Array.replicate n false)=b.zipIdx.map λp=>(p.2,p.1):=by unfold ic;rw[List.filter_eq_self];rintro⟨i,g⟩ c;simp[Qs,QY,qba]at c;obtain⟨x,j,h1,rfl,rfl⟩:=c;rw[List.mem_zipIdx_iff_getElem?]at h1;have:=(QL.1 h1).1;simp[Qq,qbb];rw[Qc O];rfl
def zi{ops:Array Oper}(T:Nat->Bool):sD ops T (Array.replicate ops.size false):=by
 have b:∀i,i<ops.size->(Array.replicate ops.size false).getD i true=false:=λi hi=>by simp[Qq,qbb,hi]
 refine⟨t_,λi o d c=> ?_,λi hi _=>b i hi⟩
 rw[b i (Qz.1 d).1]at c;cases c
def IB{ops:Array Oper}{f:Z SG}{un:Z (Nat×Nat)}(h:GQ ops.toList f=some un):un=wU ops.toList/\(∀p∈un,∀g q,f[p.1]?=some g->f[p.2]?=some q->lR g q=true)/\∀i o,ops[i]?=some o->∀e∈o.after,Region.binds .any e=true->e.on<i:=by
 unfold GQ at h;simp only at h;split at h
 .rename_i b;injection h with h
  rw[Qa]at b
  let⟨d,c⟩:=b
  refine⟨h.symm,λp l g q n k=> ?_,λi o m e r s=> ?_⟩
  .have:=Qe.1 d p (by rw[h];exact l)
   simpa[n,k]using this
  .have t:=Qe.1 c (o,i) (by rw[List.mem_zipIdx_iff_getElem?];simpa using m)
   have j:=Qe.1 t e (by simpa using r)
   rw[s]at j;simpa using j
 .cases h
theorem Ve{Γs:Nat->gL}(F:∀i,fe P (Γs i))(hm:P.follows .mixedOrders=true){nt id:Nat}{ops:Array Oper}{c:Z SG}{un:Z (Nat×Nat)}{Q:Exit->St->Prop}{S S':St}(hc:ops.toList.mapM (lB P hs ops)=some c)(hd:∀o∈ops.toList,∀t,o.dst=some t->t<nt)
  (hu:GQ ops.toList c=some un) (g:Hg Γs S.N un c {S with N:=S.N+c.length}=some S') (h:Q .normal S'):V P nt (.region id ops true) Q S:=λE hE hk a w L n=>by
 have K:c.length=ops.size:=by have:=lj hc;simpa using this
 refine wpIn_region_any hm ?_;obtain⟨I,R,m⟩:=IB hu;unfold Hg at g;split at g
 .cases g
 .rename_i S1 fs d;split at g
  .rename_i B;injection g with g
   subst g;have A:=wV _ _ _ _ d;have s:=Jr c ops.size K;refine Bn (E:=E) (base:=S.N) F hc (GU hE hk hd) m (λ_=>true) (λ_ a' w' L' h'=>⟨S1,L',h',h⟩) (λi fuel D S a w L l fs _ _ ht=>by cases ht) ops.size (Array.replicate ops.size false) {S with N:=S.N+c.length} a _ L _ fs (zi _) ((n.room c.length).drew _) (by simp[K]) (by rw[<-s];exact SN _ _) d ?_ (by rw[s];simp[K])
   intro x y p q f e H W U X he k
   have j:∀(z:Nat) (r:Nat×SG),(c.zipIdx.map λp=>(p.2,p.1))[z]?=some r->r.1=z/\c[z]?=some r.2:=by intro z r T;simp only[Qt,Qi,qba,List.getElem?_zipIdx,QY]at T;obtain⟨u,v,⟨u',J,rfl,rfl⟩,rfl⟩:=T;exact⟨t_,J⟩
   let⟨p1,p2⟩:=j x p W
   let⟨q1,q2⟩:=j y q U
   have hy:y<ops.toList.length:=by have:=(QL.1 q2).1;simp;omega
   rw[p1,q1]at k;have b:=uh hy H k;rw[<-I]at b;refine Bi (A.2 x p.1 p.2 f W X) (A.2 y q.1 q.2 e U he) (R _ b _ _ p2 q2) ?_;have:=Qe.1 B _ b;simpa[X,he]using this
  .cases g
end
end
end Go.TQ
end
