/-
  Texts made small by a program (see NOTES). Conditions: those that each theorem names.
-/
import Derived.Maps.AppendAt
import Derived.Below
import Derived.Orders
import Derived.Tactics
import Derived.Deep.MidRow
import Derived.RangeFuncLeaves
import Derived.Laws.Build
import Derived.WalkKit
import Derived.Lib.Bytes
import Derived.Laws.IdiomStrings
import Derived.Laws.Strings3
import Derived.Laws.Slices
import Derived.Laws.Tables
import Derived.Laws.MakeOwn
import Derived.Laws.Cover3
import Derived.Laws.StructEq
import Derived.Sort.LoopGhostIn
set_option linter.unusedVariables false
set_option linter.unusedSimpArgs false
set_option linter.unusedSectionVars false
set_option maxHeartbeats 2000000
namespace Go
theorem Qa : type_of% @Option.bind_some := @Option.bind_some
theorem Qb : type_of% @Option.map_eq_some_iff := @Option.map_eq_some_iff
theorem Qc : type_of% @Option.bind_eq_some_iff := @Option.bind_eq_some_iff
theorem Qd : type_of% @Option.bind_eq_bind := @Option.bind_eq_bind
theorem Qe : type_of% @Option.map_some := @Option.map_some
theorem Qf : type_of% @Option.some.injEq := @Option.some.injEq
theorem Qg : type_of% @decide_eq_true := @decide_eq_true
theorem Qh : type_of% @decide_eq_false := @decide_eq_false
theorem Qi : type_of% @decide_eq_true_eq := @decide_eq_true_eq
theorem Qj : type_of% @decide_eq_false_iff_not := @decide_eq_false_iff_not
theorem Qk : type_of% @cond_true := @cond_true
theorem Ql : type_of% @cond_false := @cond_false
theorem Qm : type_of% @Bool.and_eq_true := @Bool.and_eq_true
theorem Qn : type_of% @Bool.or_eq_true := @Bool.or_eq_true
theorem Qo : type_of% @Bool.not_true := @Bool.not_true
theorem Qp : type_of% @Bool.not_false := @Bool.not_false
theorem Qq : type_of% @Bool.false_eq_true := @Bool.false_eq_true
theorem Qr : type_of% @if_pos := @if_pos
theorem Qs : type_of% @if_neg := @if_neg
theorem Qt : type_of% @if_true := @if_true
theorem Qu : type_of% @if_false := @if_false
theorem Qv : type_of% @List.getElem?_eq_getElem := @List.getElem?_eq_getElem
theorem Qw : type_of% @List.getElem?_eq_some_iff := @List.getElem?_eq_some_iff
theorem Qx : type_of% @List.mem_cons_self := @List.mem_cons_self
theorem Qy : type_of% @List.mem_cons_of_mem := @List.mem_cons_of_mem
theorem Qz : type_of% @List.mem_append := @List.mem_append
theorem QA : type_of% @List.mem_cons := @List.mem_cons
theorem QB : type_of% @List.length_append := @List.length_append
theorem QC : type_of% @List.length_map := @List.length_map
theorem QD : type_of% @List.map_cons := @List.map_cons
theorem QE : type_of% @List.length_cons := @List.length_cons
theorem QF : type_of% @Nat.eq_of_beq_eq_true := @Nat.eq_of_beq_eq_true
theorem QG : type_of% @Nat.le_of_ble_eq_true := @Nat.le_of_ble_eq_true
theorem QH : type_of% @List.all_eq_true := @List.all_eq_true
theorem QI : type_of% @Nat.le_refl := @Nat.le_refl
theorem QJ : type_of% @Nat.lt_of_lt_of_le := @Nat.lt_of_lt_of_le
theorem QK : type_of% @Nat.le_trans := @Nat.le_trans
theorem QL : type_of% @List.append_assoc := @List.append_assoc
theorem QM : type_of% @List.drop_eq_getElem_cons := @List.drop_eq_getElem_cons
theorem QN : type_of% @Array.getD_eq_getD_getElem? := @Array.getD_eq_getD_getElem?
theorem QO : type_of% @List.map_nil := @List.map_nil
theorem QP : type_of% @List.mem_map := @List.mem_map
theorem QQ : type_of% @List.mem_flatMap := @List.mem_flatMap
theorem QR : type_of% @List.not_mem_nil := @List.not_mem_nil
theorem QS : type_of% @Nat.zero_le := @Nat.zero_le
theorem QT : type_of% @List.getElem?_map := @List.getElem?_map
theorem QU : type_of% @List.foldl_cons := @List.foldl_cons
theorem QV : type_of% @Int.toNat_natCast := @Int.toNat_natCast
theorem QW : type_of% @Bool.eq_iff_iff := @Bool.eq_iff_iff
theorem QX : type_of% @List.length_set := @List.length_set
theorem QY : type_of% @List.length_nil := @List.length_nil
theorem QZ : type_of% @List.getElem_mem := @List.getElem_mem
theorem Q0 : type_of% @List.mem_of_mem_take := @List.mem_of_mem_take
theorem Q1 : type_of% @List.mem_of_mem_drop := @List.mem_of_mem_drop
theorem Q2 : type_of% @Option.getD_some := @Option.getD_some
theorem Q3 : type_of% @List.pairwise_cons := @List.pairwise_cons
theorem Q4 : type_of% @List.mem_singleton := @List.mem_singleton
theorem Q5 : type_of% @List.length_singleton := @List.length_singleton
theorem Q6 : type_of% @List.take_succ_eq_append_getElem := @List.take_succ_eq_append_getElem
theorem Q7 : type_of% @List.mem_of_getElem? := @List.mem_of_getElem?
theorem Q8 : type_of% @Array.getElem?_eq_some_iff := @Array.getElem?_eq_some_iff
theorem Q9 : type_of% @List.take_length := @List.take_length
theorem Qq62 : type_of% @Nat.mul_le_mul_right := @Nat.mul_le_mul_right
theorem Qq63 : type_of% @Int.lt_irrefl := @Int.lt_irrefl
theorem Qq64 : type_of% @Option.map_none := @Option.map_none
theorem Qq65 : type_of% @List.drop_length := @List.drop_length
theorem Qq66 : type_of% @List.eq_nil_of_length_eq_zero := @List.eq_nil_of_length_eq_zero
theorem Qq67 : type_of% @List.getElem?_take := @List.getElem?_take
theorem Qq68 : type_of% @List.pairwise_append := @List.pairwise_append
theorem Qq69 : type_of% @List.all_cons := @List.all_cons
theorem Qq70 : type_of% @List.map_congr_left := @List.map_congr_left
theorem Qq71 : type_of% @List.getElem?_eq_none := @List.getElem?_eq_none
theorem Qq72 : type_of% @Nat.add_mul := @Nat.add_mul
theorem Qq73 : type_of% @Bool.or_eq_false_iff := @Bool.or_eq_false_iff
theorem Qq74 : type_of% @List.mapM_cons := @List.mapM_cons
end Go
noncomputable section
namespace Go.TQ
section
inductive PV where
 |any
 |undef
 |int (k:IntKind) (n:Int)
 |bool (b:Bool)
 |fW
 |str (s:ByteArray)
 |jW
 |dW
 |bY (f:FuncId) (caps:List PV)
 |jx (f:FuncId) (first:List PV)
 |agg (cs:List PV)
 |dg (cs:List PV)
 |ptr (id ak off:Nat)
 |ref (cs:List PV)
 |sl (es:List (List PV))
 |own (id ak:Nat)
 |eN (id ak k i off:Nat)
 |view (id ak k lo n:Nat)
 |jg (ks vs:List PV)
 |mX (b:Bool)
 |jw (T:TypeId) (x:PV)
def PV.plain:PV->Bool
 | .int ..| .bool _| .fW| .str _| .jW| .dW| .any| .undef| .mX _| .jw ..=>true
 |_=>false
structure Gh where
 N:Nat
 L:Nat->Value
 V:Nat->Nat
def dX:Gh:=⟨0,fun _=> .bool false,fun _=>0⟩
def cW:Value->Option Nat
 | .pointer (some a)=>some a.block
 | .slice (some a) _ _=>some a.block
 |_=>none
def T3(l:Value)(k lo n:Nat)(a:Option Addr)(c:Nat):Prop:=
 ∃a0 m c0,l= .slice a0 m c0/\lo+n<=m/\m<=c0/\c=c0 - lo/\((n=0/\lo≠0/\(a=none->a0=none))\/a=a0.map (·.add (lo*k)))
inductive bm (w:World) (M:Nat->Prop):Gh->PV->Value->Prop where
 |any {G:Gh} (v:Value):bm w M G .any v
 |undef {G:Gh}:bm w M G .undef Go.undef
 |int {G:Gh} (k:IntKind) (n:Int):bm w M G (.int k n) (.int k n)
 |bool {G:Gh} (b:Bool):bm w M G (.bool b) (.bool b)
 |fW {G:Gh} (b:Bool):bm w M G .fW (.bool b)
 |str {G:Gh} (s:ByteArray):bm w M G (.str s) (.string s)
 |jW {G:Gh}:bm w M G .jW (.pointer none)
 |dW {G:Gh}:bm w M G .dW (.slice none 0 0)
 |bY {G:Gh} (f:FuncId) (caps:List PV) (vs:List Value) (hl:vs.length=caps.length) (h:∀(i:Nat) (x:PV) (v:Value),caps[i]?=some x->vs[i]?=some v->bm w M G x v):bm w M G (.bY f caps) (.func (.func f) #[] vs.toArray)
 |jx {G:Gh} (f:FuncId) (cs:List PV) (vs:List Value) (hl:vs.length=cs.length) (h:∀(i:Nat) (x:PV) (v:Value),cs[i]?=some x->vs[i]?=some v->bm w M G x v):bm w M G (.jx f cs) (.func (.func f) vs.toArray #[])
 |agg {G:Gh} (cs:List PV) (vs:List Value) (hl:vs.length=cs.length) (h:∀(i:Nat) (x:PV) (v:Value),cs[i]?=some x->vs[i]?=some v->bm w M G x v):bm w M G (.agg cs) (.agg vs.toArray)
 |dg {G:Gh} (cs:List PV) (vs:List Value) (hl:vs.length=cs.length) (h:∀(i:Nat) (x:PV) (v:Value),cs[i]?=some x->vs[i]?=some v->bm w M G x v):bm w M G (.dg cs) (.tuple vs.toArray)
 |ptr {G:Gh} (id ak off:Nat) (a:Option Addr) (hN:id<G.N) (hV:ak<=G.V id) (h:ak=G.V id->a=(cW (G.L id)).map fun b=>⟨b,off,none⟩):bm w M G (.ptr id ak off) (.pointer a)
 |ref {G:Gh} (cs:List PV) (a:Addr) (vs:List Value) (hl:vs.length=cs.length) (hc:∀(i:Nat) (v:Value),vs[i]?=some v->w.cell? (a.add i)=some v/\¬M a.block)
   (h:∀(i:Nat) (x:PV) (v:Value),cs[i]?=some x->vs[i]?=some v->bm w M dX x v):bm w M G (.ref cs) (.pointer (some a))
 |sl {G:Gh} (es:List (List PV)) (a:Addr) (c k:Nat) (vs:List Value) (hk:∀e∈es,e.length=k) (hl:vs.length=es.flatten.length) (hc:∀(i:Nat) (v:Value),vs[i]?=some v->w.cell? (a.add i)=some v/\¬M a.block)
   (h:∀(i:Nat) (x:PV) (v:Value),es.flatten[i]?=some x->vs[i]?=some v->bm w M dX x v) (hn:es.length<=c) (hm:c<=maxLen):bm w M G (.sl es) (.slice (some a) es.length c)
 |slnil {G:Gh}:bm w M G (.sl []) (.slice none 0 0)
 |own {G:Gh} (id ak:Nat) (a:Option Addr) (n c:Nat) (hN:id<G.N) (hV:ak<=G.V id) (h:ak=G.V id-> .slice a n c=G.L id):bm w M G (.own id ak) (.slice a n c)
 |eN {G:Gh} (id ak k i off:Nat) (a:Option Addr) (hN:id<G.N) (hV:ak<=G.V id) (h:ak=G.V id->a=(cW (G.L id)).map fun b=>⟨b,i*k+off,none⟩):bm w M G (.eN id ak k i off) (.pointer a)
 |view {G:Gh} (id ak k lo n:Nat) (a:Option Addr) (c:Nat) (hN:id<G.N) (hV:ak<=G.V id) (h:ak=G.V id->T3 (G.L id) k lo n a c):bm w M G (.view id ak k lo n) (.slice a n c)
 |jg {G:Gh} (ks vs:List PV) (b:Nat) (es:Array MapEntry) (ck:Nat) (hb:w.heap[b]?=some (.map es ck)) (hM:¬M b) (hk:es.size=ks.length) (hv:es.size=vs.length)
   (h1:∀(i:Nat) (x:PV) (e:MapEntry),ks[i]?=some x->es[i]?=some e->bm w M dX x e.key) (h2:∀(i:Nat) (x:PV) (e:MapEntry),vs[i]?=some x->es[i]?=some e->bm w M dX x e.val):bm w M G (.jg ks vs) (.map (some b))
 |wM {G:Gh}:bm w M G (.mX true) .nilIface
 |xF {G:Gh} (T:TypeId) (v:Value):bm w M G (.mX false) (.iface T v)
 |jw {G:Gh} (T:TypeId) (x:PV) (v:Value) (hp:x.plain=true) (h:bm w M dX x v):bm w M G (.jw T x) (.iface T v)
def bg(w:World)(M:Nat->Prop)(G:Gh)(cs:List PV)(vs:List Value):Prop:=
 vs.length=cs.length/\∀(i:Nat) (x:PV) (v:Value),cs[i]?=some x->vs[i]?=some v->bm w M G x v
structure Gh.le (G G':Gh):Prop where
 N:G.N<=G'.N
 at_:∀id,id<G.N->(G.V id=G'.V id/\G.L id=G'.L id)\/G.V id<G'.V id
theorem Gh.le.refl(G:Gh):G.le G:=⟨QI _,fun _ _=> .inl ⟨rfl,rfl⟩⟩
structure dZ (w w':World) (M M':Nat->Prop):Prop where
 c:∀(a:Addr) (v:Value),w.cell? a=some v->¬M a.block->w'.cell? a=some v/\¬M' a.block
 m:∀(b:Nat) (es:Array MapEntry) (ck:Nat),w.heap[b]?=some (.map es ck)->¬M b->w'.heap[b]?=some (.map es ck)/\¬M' b
theorem dZ.of{w:World}{M M':Nat->Prop}(h:∀b,¬M b->¬M' b):dZ w w M M':=⟨fun _ _ hp hm=>⟨hp,h _ hm⟩,fun _ _ _ hb hm=>⟨hb,h _ hm⟩⟩
theorem bm.agz{w w':World}{M M':Nat->Prop}{G:Gh}(hs:dZ w w' M M'){x:PV}{v:Value}(h:bm w M G x v):∀G',G.le G'->bm w' M' G' x v:=by
 induction h with
 |any v=>exact fun _ _=> .any v
 |undef=>exact fun _ _=> .undef
 |int k n=>exact fun _ _=> .int k n
 |bool b=>exact fun _ _=> .bool b
 |fW b=>exact fun _ _=> .fW b
 |str s=>exact fun _ _=> .str s
 |jW=>exact fun _ _=> .jW
 |dW=>exact fun _ _=> .dW
 |bY f caps vs hl _ ih=>exact fun G' hg=> .bY f caps vs hl fun i x v hx hv=>ih i x v hx hv G' hg
 |jx f cs vs hl _ ih=>exact fun G' hg=> .jx f cs vs hl fun i x v hx hv=>ih i x v hx hv G' hg
 |agg cs vs hl _ ih=>exact fun G' hg=> .agg cs vs hl fun i x v hx hv=>ih i x v hx hv G' hg
 |dg cs vs hl _ ih=>exact fun G' hg=> .dg cs vs hl fun i x v hx hv=>ih i x v hx hv G' hg
 |ptr id ak off a hN hV h=>
  intro G' hg;refine .ptr id ak off a (QJ hN hg.N) ?_ ?_
  ·rcases hg.at_ id hN with⟨e,_⟩|e<;>omega
  ·intro e;rcases hg.at_ id hN with⟨e1,e2⟩|e1
   ·rw[<-e2];exact h (by omega)
   ·omega
 |ref cs a vs hl hc _ ih=>
  intro G' _
  exact .ref cs a vs hl (fun i v hv=>by
   obtain⟨h1,h2⟩:=hc i v hv;have hb:(a.add i).block=a.block:=by unfold Addr.add;split<;>rfl
   have:=hs.c _ _ h1 (by rw[hb];exact h2)
   rw[hb]at this
   exact this) fun i x v hx hv=>ih i x v hx hv dX (Gh.le.refl _)
 |sl es a c k vs hk hl hc _ hn hm ih=>
  intro G' _
  exact .sl es a c k vs hk hl (fun i v hv=>by
   obtain⟨h1,h2⟩:=hc i v hv;have hb:(a.add i).block=a.block:=by unfold Addr.add;split<;>rfl
   have:=hs.c _ _ h1 (by rw[hb];exact h2)
   rw[hb]at this
   exact this) (fun i x v hx hv=>ih i x v hx hv dX (Gh.le.refl _)) hn hm
 |slnil=>exact fun _ _=> .slnil
 |own id ak a n c hN hV h=>
  intro G' hg;refine .own id ak a n c (QJ hN hg.N) ?_ ?_
  ·rcases hg.at_ id hN with⟨e,_⟩|e<;>omega
  ·intro e;rcases hg.at_ id hN with⟨e1,e2⟩|e1
   ·rw[<-e2];exact h (by omega)
   ·omega
 |eN id ak k i off a hN hV h=>
  intro G' hg;refine .eN id ak k i off a (QJ hN hg.N) ?_ ?_
  ·rcases hg.at_ id hN with⟨e,_⟩|e<;>omega
  ·intro e;rcases hg.at_ id hN with⟨e1,e2⟩|e1
   ·rw[<-e2];exact h (by omega)
   ·omega
 |view id ak k lo n a c hN hV h=>
  intro G' hg;refine .view id ak k lo n a c (QJ hN hg.N) ?_ ?_
  ·rcases hg.at_ id hN with⟨e,_⟩|e<;>omega
  ·intro e;rcases hg.at_ id hN with⟨e1,e2⟩|e1
   ·rw[<-e2];exact h (by omega)
   ·omega
 |jg ks vs b es ck hb hM hk hv _ _ ih1 ih2=>
  intro G' _;exact .jg ks vs b es ck (hs.m _ _ _ hb hM).1 (hs.m _ _ _ hb hM).2 hk hv (fun i x e hx he=>ih1 i x e hx he dX (Gh.le.refl _)) fun i x e hx he=>ih2 i x e hx he dX (Gh.le.refl _)
 |wM=>exact fun _ _=> .wM
 |xF T v=>exact fun _ _=> .xF T v
 |jw T x v hp _ ih=>exact fun _ _=> .jw T x v hp (ih dX (Gh.le.refl _))
theorem bm.mono{w w':World}{M M':Nat->Prop}{G G':Gh}(hs:dZ w w' M M')(hg:G.le G'){x:PV}{v:Value}(h:bm w M G x v):bm w' M' G' x v:=h.agz hs G' hg
theorem dX.le(G:Gh):dX.le G:=⟨QS _,fun _ h=>absurd h (Nat.not_lt_zero _)⟩
theorem bg.mono{w w':World}{M M':Nat->Prop}{G G':Gh}(hs:dZ w w' M M')(hg:G.le G'){cs:List PV}{vs:List Value}(h:bg w M G cs vs):bg w' M' G' cs vs:=
 ⟨h.1,fun i x v hx hv=>(h.2 i x v hx hv).mono hs hg⟩
section
variable {w : World} {M : Nat -> Prop} {G : Gh}
theorem bg.nil:bg w M G [] []:=⟨rfl,fun i x v h _=>by simp at h⟩
theorem bg.cons{x:PV}{v:Value}{cs:List PV}{vs:List Value}(h:bm w M G x v)(t:bg w M G cs vs):bg w M G (x::cs) (v::vs):=by
 refine⟨by simp[t.1],fun i y u hy hu=> ?_⟩
 cases i with
 |zero=>simp at hy hu;subst hy hu;exact h
 |succ i=>simp at hy hu;exact t.2 i y u hy hu
theorem bg.cons_inv{x:PV}{cs:List PV}{vs:List Value}(h:bg w M G (x::cs) vs):∃v vs',vs=v::vs'/\bm w M G x v/\bg w M G cs vs':=by
 obtain⟨hl,h⟩:=h
 cases vs with
 |nil=>simp at hl
 |cons v vs=>exact⟨v,vs,rfl,h 0 x v (by simp) (by simp),by simpa using hl,fun i y u hy hu=>h (i+1) y u (by simpa using hy) (by simpa using hu)⟩
theorem bg.qG{vs:List Value}(h:bg w M G [] vs):vs=[]:=Qq66 h.1
theorem bg.append{cs ds:List PV}{vs us:List Value}(h:bg w M G cs vs)(k:bg w M G ds us):bg w M G (cs++ds) (vs++us):=by
 refine⟨by simp[h.1,k.1],fun i x v hx hv=> ?_⟩
 by_cases hi:i<cs.length
 ·rw[List.getElem?_append_left hi]at hx;rw[List.getElem?_append_left (by rw[h.1];exact hi)]at hv
  exact h.2 i x v hx hv
 ·rw[List.getElem?_append_right (by omega)]at hx
  rw[List.getElem?_append_right (by rw[h.1];omega),h.1]at hv
  exact k.2 _ x v hx hv
theorem bg.take{cs:List PV}{vs:List Value}(h:bg w M G cs vs)(n:Nat):bg w M G (cs.take n) (vs.take n):=by
 refine⟨by simp[h.1],fun i x v hx hv=> ?_⟩
 rw[Qq67]at hx hv;split at hx
 ·rename_i hi;rw[Qr hi]at hv;exact h.2 i x v hx hv
 ·cases hx
theorem bg.drop{cs:List PV}{vs:List Value}(h:bg w M G cs vs)(n:Nat):bg w M G (cs.drop n) (vs.drop n):=by
 refine⟨by simp[h.1],fun i x v hx hv=> ?_⟩
 rw[List.getElem?_drop]at hx hv;exact h.2 _ x v hx hv
theorem bg.get{cs:List PV}{vs:List Value}(h:bg w M G cs vs){i:Nat}{x:PV}(hx:cs[i]?=some x):∃v,vs[i]?=some v/\bm w M G x v:=by
 have hi:i<vs.length:=by rw[h.1];exact(Qw.1 hx).1
 exact⟨vs[i],Qv hi,h.2 i x _ hx (Qv hi)⟩
def PV.one:PV->Bool
 | .int ..| .bool _| .fW| .str _| .jW| .dW| .bY ..| .jx ..| .ptr ..| .eN ..| .ref _| .sl _| .own ..| .view ..| .jg ..| .mX _| .jw ..=>true
 |_=>false
def PV.cells:PV->List PV
 | .agg cs=>cs
 |x=>[x]
theorem bm.one{x:PV}{v:Value}(h:bm w M G x v)(h1:x.one=true):v.oneCell'=true/\v.cells=#[v]:=by
 cases h<;>simp[PV.one]at h1<;>exact⟨rfl,rfl⟩
theorem bm.cells{x:PV}{v:Value}(h:bm w M G x v)(h1:∀y∈x.cells,y.one=true):bg w M G x.cells v.cells.toList/\∀u∈v.cells.toList,u.oneCell'=true:=by
 have go:∀{cs:List PV} {vs:List Value},bg w M G cs vs->(∀y∈cs,y.one=true)->∀u∈vs,u.oneCell'=true:=by
  intro cs vs hr h1 u hu;obtain⟨i,hi,rfl⟩:=List.mem_iff_getElem.1 hu;have hx:i<cs.length:=by rw[<-hr.1];exact hi
  exact((hr.2 i cs[i] vs[i] (Qv hx) (Qv hi)).one (h1 _ (QZ hx))).1
 cases hx:x with
 |agg cs=>
  subst hx
  cases h with
  |agg _ vs hl h=>
   have hr:bg w M G cs vs:=⟨hl,h⟩;exact⟨by simpa[PV.cells,Value.cells]using hr,by simpa[Value.cells]using go hr (by simpa[PV.cells]using h1)⟩
 |_=>
  have hc:x.cells=[x]:=by rw[hx];rfl
  rw[<-hx];rw[hc]at h1;obtain⟨h2,h3⟩:=h.one (h1 x (by simp))
  rw[hc,h3];exact⟨.cons h .nil,by simpa using h2⟩
end
end
section
open Go.RowKit
inductive yE where
 |dead
 |box (cs:List PV)
 |row (e:TypeId) (k:Nat) (es:List (List PV))
structure fE where
 ak:Nat
 c:yE
def yE.live:yE->Bool
 | .dead=>false
 |_=>true
structure St where
 env:Nat->PV
 H:Nat->fE
 N:Nat
def bJ{α:Type}(f:Nat->α)(i:Nat)(x:α):Nat->α:=fun j=>if j=i then x else f j
theorem bZ{α:Type}(f:Nat->α)(i:Nat)(x:α):bJ f i x i=x:=by simp[bJ]
theorem cu{α:Type}(f:Nat->α){i j:Nat}(x:α)(h:j≠i):bJ f i x j=f j:=by simp[bJ,h]
def isC:Obj->Bool
 | .cells ..=>true
 |_=>false
def SY:Obj->Bool
 | .cells ..| .map ..=>true
 |_=>false
theorem adz{o:Obj}(h:isC o=true):SY o=true:=by cases o<;>first|rfl|cases h
structure Cf (w w':World):Prop where
 size:w.heap.size<=w'.heap.size
 same:∀(k:Nat) (o:Obj),w.heap[k]?=some o->isC o=false->w'.heap[k]?=some o
theorem Cf.refl(w:World):Cf w w:=⟨QI _,fun _ _ h _=>h⟩
theorem Cf.trans{a b c:World}(h:Cf a b)(k:Cf b c):Cf a c:=⟨QK h.size k.size,fun i o hi ho=>k.same i o (h.same i o hi ho) ho⟩
def WF(rd:Option Nat):Fence:={Fence.wide with round:=rd}
theorem xY{rd:Option Nat}{n:Nat}{P:Program}{f:FuncId}{args:Array Value}{w:World}{R:Ending->World->Prop}:CallsIn (WF rd) n P f args w R↔Calls P f args w R:=
 (show CallsIn (WF rd) n P f args w R↔CallsIn Fence.wide n P f args w R from Iff.rfl).trans callsIn_wide
def Xc:List (Nat×(Obj->Prop)):=[]
def gb(b:Nat):Prop:=∃q∈Xc,q.1=b
def GI(w:World):Prop:=∀q∈Xc,∃o,w.heap[q.1]?=some o/\q.2 o
structure tq (w:World) (X:Nat->Prop):Prop where
 lt:∀b,X b->b<w.heap.size
 ng:∀b,X b->¬gb b
 gi:GI w
theorem GI.lt{w:World}(h:GI w){b:Nat}(hb:gb b):b<w.heap.size:=by
 obtain⟨q,hq,rfl⟩:=hb;obtain⟨o,ho,_⟩:=h q hq;exact(Q8.1 ho).1
theorem GI.eu{w w':World}(h:GI w)(hb:∀b,gb b->w'.heap[b]?=w.heap[b]?):GI w':=fun q hq=>by
 obtain⟨o,ho,hp⟩:=h q hq;exact⟨o,(hb _ ⟨q,hq,rfl⟩).trans ho,hp⟩
theorem tq.nil{w:World}(h:GI w):tq w fun _=>False:=⟨fun _ hb=>hb.elim,fun _ hb=>hb.elim,h⟩
structure En where
 w0:World
 rb:Option Nat
 nt:Nat
 rd:Option Nat
 nd:Bool
 kt:Nat->Option Value
 wk:World
 X:Nat->Prop
 hX:tq w0 X
 W0:Bool
 rv:Value
 rk:Bool
 Mx:∀b,rb=some b->b<w0.heap.size/\¬gb b
 Zk:rk=true->∀b,rb=some b->¬X b
def gI(E:En)(v:Value):Nat:=if E.rk=true/\E.rb≠none/\cW v=E.rb then 0 else E.w0.heap.size
theorem AD{E:En}{v v':Value}(h:cW v=cW v'):gI E v=gI E v':=by simp[gI,h]
theorem Lc(E:En)(v:Value):gI E v<=E.w0.heap.size:=by unfold gI;split<;>omega
theorem Ja{E:En}{v:Value}{g:Nat}(h:cW v=some g)(hg:E.w0.heap.size<=g):gI E v=E.w0.heap.size:=by
 unfold gI;rw[Qs];rintro⟨_,_,h1⟩;rw[h]at h1;have:=(E.Mx g h1.symm).1;omega
theorem Ey{E:En}{v:Value}{g:Nat}(h:cW v=some g)(hb:gI E v<=g):(E.rk=true/\E.rb=some g)\/E.w0.heap.size<=g:=by
 unfold gI at hb;split at hb
 ·rename_i hc;exact .inl ⟨hc.1,by rw[<-hc.2.2,h]⟩
 ·exact .inr hb
def qP:Bool:=true
def DL(w w':World):Prop:=qP=true->w.drawn<=w'.drawn
theorem DL.refl(w:World):DL w w:=fun _=>QI _
theorem DL.of{w w':World}(h:w.drawn<=w'.drawn):DL w w':=fun _=>h
theorem DL.trans{a b c:World}(h:DL a b)(k:DL b c):DL a c:=fun e=>QK (h e) (k e)
structure Fr (rb:Option Nat) (w0 w:World):Prop where
 os:w.os=w0.os
 tape:w.tape=w0.tape
 output:w.output=w0.output
 size:w0.heap.size<=w.heap.size
 block:∀b,b<w0.heap.size->rb≠some b->w.heap[b]?=w0.heap[b]?
 drawn:DL w0 w
theorem Fr.refl(rb:Option Nat)(w:World):Fr rb w w:=⟨rfl,rfl,rfl,QI _,fun _ _ _=>rfl,DL.refl _⟩
def br(E:En)(S:St)(L:Nat->Value)(b:Nat):Prop:=(∃id,id<S.N/\(S.H id).c.live=true/\cW (L id)=some b)\/E.X b
def St.gh(S:St)(L:Nat->Value):Gh:=⟨S.N,L,fun id=>(S.H id).ak⟩
def wo(E:En)(w:World)(M:Nat->Prop)(G:Gh)(v:Value):yE->Prop
 | .dead=>True
 | .box cs=>∃(b:Nat) (cur:Array Value) (T:TypeId),v= .pointer (some ⟨b,0,none⟩)/\w.heap[b]?=some (.cells cur T (0,0))/\(E.rb=some b\/E.w0.heap.size<=b)/\bg w M G cs cur.toList
 | .row e k es=>∃(vs:List Value),w.ownsRow (gI E v) e k v es.length vs/\(∀x∈es,x.length=k)/\bg w M G es.flatten vs
def En.can(E:En)(d:Nat):Prop:=d<E.nt/\E.kt d=none
structure Marks (E:En) (a:Act) (w:World):Prop where
 none:E.nd=true->a.defers=[]
 nodup:a.defers.Nodup
 at_:∀d∈a.defers,∃D,d={target:= .collected D,args:=#[]}/\E.w0.heap.size<=D/\w.heap[D]?=some (.deferred (some []))
theorem Marks.nil{E:En}{a:Act}{w:World}(h:a.defers=[]):Marks E a w:=⟨fun _=>h,by rw[h];exact List.nodup_nil,fun d hd=>by rw[h]at hd;cases hd⟩
structure FrE (E:En) (w:World):Prop extends Fr E.rb E.w0 w where
 ko:Cf E.wk w
structure Rel (E:En) (S:St) (a:Act) (w:World) (L:Nat->Value):Prop where
 defers:Marks E a w
 size:a.tmps.size=E.nt/\∀t v,E.kt t=some v->a.tmps.getD t undef=v
 env:∀t,bm w (br E S L) (S.gh L) (S.env t) (a.tmps.getD t undef)
 obj:∀id,id<S.N->wo E w (br E S L) (S.gh L) (L id) (S.H id).c
 apart:∀i j b,i<S.N->j<S.N->(S.H i).c.live=true->(S.H j).c.live=true->cW (L i)=some b->cW (L j)=some b->i=j
 fresh:∀id,S.N<=id->S.H id=⟨0,.dead⟩
 fr:FrE E w
 BE:E.W0=true->(S.H 0).c.live=true->(S.H 0).ak=0->L 0=E.rv
theorem HA(a:Addr)(i:Nat):(a.add i).block=a.block:=by unfold Addr.add;split<;>rfl
theorem VQ{w:World}{a:Addr}{v:Value}(h:w.cell? a=some v):a.block<w.heap.size:=World.block_lt_of_cell? w a h
theorem wo.mono{E:En}{w w':World}{M M':Nat->Prop}{G G':Gh}{v:Value}{c:yE}(hs:dZ w w' M M')(hg:G.le G')
  (hb:∀b,cW v=some b->b<w.heap.size->w'.heap[b]?=w.heap[b]?) (h:wo E w M G v c):wo E w' M' G' v c:=by
 cases c with
 |dead=>trivial
 |box cs=>
  obtain⟨b,cur,T,rfl,hh,hE,hr⟩:=h;exact⟨b,cur,T,rfl,(hb b rfl (Q8.1 hh).1).trans hh,hE,hr.mono hs hg⟩
 |row e k cs=>
  obtain⟨vs,ho,hk,hr⟩:=h;refine⟨vs,⟨ho.1,?_⟩,hk,hr.mono hs hg⟩;rcases ho.2 with hn|⟨g,cap,cur,rfl,hb1,hh,rest⟩
  ·exact .inl hn
  ·exact .inr ⟨g,cap,cur,rfl,hb1,(hb g rfl (Q8.1 hh).1).trans hh,rest⟩
theorem wo.ya{E:En}{w:World}{M:Nat->Prop}{G:Gh}{v:Value}{c:yE}(h:wo E w M G v c)(hl:c.live=true){b:Nat}(hb:cW v=some b):
  b<w.heap.size/\(E.rb=some b\/E.w0.heap.size<=b):=by
 cases c with
 |dead=>cases hl
 |box cs=>
  obtain⟨b',cur,T,rfl,hh,hE,_⟩:=h;simp only[cW,Qf]at hb;subst hb;exact⟨(Q8.1 hh).1,hE⟩
 |row e k cs=>
  obtain⟨vs,ho,_⟩:=h;rcases ho.2 with⟨rfl,_⟩|⟨g,cap,cur,rfl,hb1,hh,rest⟩
  ·simp[cW]at hb
  ·simp only[cW,Qf]at hb;subst hb;exact⟨(Q8.1 hh).1,(Ey rfl hb1).imp (·.2) id⟩
section
variable {E : En} {S : St} {a : Act} {w : World} {L : Nat -> Value}
theorem Marks.oth{w':World}(h:Marks E a w)(ho:Cf w w'):Marks E a w':=⟨h.none,h.nodup,fun d hd=>by
 obtain⟨D,h1,h2,h3⟩:=h.at_ d hd
 exact⟨D,h1,h2,ho.same D _ h3 rfl⟩⟩
theorem wo.cells{M:Nat->Prop}{G:Gh}{v:Value}{c:yE}(h:wo E w M G v c)(hl:c.live=true){b:Nat}(hb:cW v=some b):∃o,w.heap[b]?=some o/\isC o=true:=by
 cases c with
 |dead=>cases hl
 |box cs=>
  obtain⟨b',cur,T,rfl,hh,hE,_⟩:=h;simp only[cW,Qf]at hb;subst hb;exact⟨_,hh,rfl⟩
 |row e k cs=>
  obtain⟨vs,ho,_⟩:=h;rcases ho.2 with⟨rfl,_⟩|⟨g,cap,cur,rfl,hb1,hh,rest⟩
  ·simp[cW]at hb
  ·simp only[cW,Qf]at hb;subst hb;exact⟨_,hh,rfl⟩
theorem JN{a:Act}{d t:Nat}{v:Value}(h:t≠d):(a.put (some d) v).tmps.getD t undef=a.tmps.getD t undef:=by
 simp only[Act.put,QN];rw[Array.getElem?_setIfInBounds_ne (fun e=>h e.symm)]
theorem Rel.put(h:Rel E S a w L){d:Nat}{x:PV}{v:Value}(hd:E.can d)(hx:bm w (br E S L) (S.gh L) x v):
  Rel E {S with env:=bJ S.env d x} (a.put (some d) v) w L:=by
 refine⟨⟨h.defers.none,h.defers.nodup,h.defers.at_⟩,⟨by simp[Act.put,h.size.1],fun t u hu=> ?_⟩,fun t=> ?_,h.obj,h.apart,h.fresh,h.fr,h.BE⟩
 ·rw[JN (fun e=>by subst e;rw[hd.2]at hu;cases hu)]
  exact h.size.2 t u hu
 show bm w (br E S L) (S.gh L) (bJ S.env d x t) _
 by_cases ht:t=d
 ·subst ht;have:(a.put (some t) v).tmps.getD t undef=v:=by simp[Act.put,QN,Array.getElem?_setIfInBounds_self_of_lt (show t<a.tmps.size by rw[h.size.1];exact hd.1)]
  rw[this,bZ];exact hx
 ·have:(a.put (some d) v).tmps.getD t undef=a.tmps.getD t undef:=by
   simp only[Act.put,QN];rw[Array.getElem?_setIfInBounds_ne (fun e=>ht e.symm)]
  rw[this,cu _ _ ht];exact h.env t
theorem Rel.grow(h:Rel E S a w L){w':World}(hos:w'.os=w.os)(htape:w'.tape=w.tape)(hout:w'.output=w.output)(hsz:w.heap.size<=w'.heap.size)
  (hb:∀b,b<w.heap.size->w'.heap[b]?=w.heap[b]?) (hdr:DL w w':=by first|exact DL.refl _|exact DL.of (QI _)|exact DL.of (by first|(simp;done)|omega)):Rel E S a w' L/\dZ w w' (br E S L) (br E S L):=by
 have hs:dZ w w' (br E S L) (br E S L):=⟨fun p v hp hm=>⟨(World.cell?_of_block (hb _ (VQ hp))).trans hp,hm⟩,fun k _ _ hk hm=>⟨(hb k (Q8.1 hk).1).trans hk,hm⟩⟩
 have ho:Cf w w':=⟨hsz,fun k o hk _=>(hb k (Q8.1 hk).1).trans hk⟩
 refine⟨⟨h.defers.oth ho,h.size,fun t=>(h.env t).mono hs (Gh.le.refl _),fun id hid=>(h.obj id hid).mono hs (Gh.le.refl _) (fun b _ hlt=>hb b hlt),h.apart,h.fresh,
  ⟨⟨hos.trans h.fr.os,htape.trans h.fr.tape,hout.trans h.fr.output,QK h.fr.size hsz,fun b h1 h2=>(hb b (QJ h1 h.fr.size)).trans (h.fr.block b h1 h2),h.fr.drawn.trans hdr⟩,h.fr.ko.trans ho⟩,h.BE⟩,hs⟩
theorem Rel.qA(h:Rel E S a w L){w':World}{id:Nat}(hid:id<S.N)(o:fE)(l:Value)
  (hv:(o.ak=(S.H id).ak/\l=L id/\(S.H id).c.live=true)\/(S.H id).ak<o.ak)
  (hos:w'.os=w.os) (htape:w'.tape=w.tape) (hout:w'.output=w.output) (hsz:w.heap.size<=w'.heap.size)
  (hb:∀b,b<w.heap.size->((S.H id).c.live=true->cW (L id)≠some b)->w'.heap[b]?=w.heap[b]?)
  (hl:∀b,o.c.live=true->cW l=some b->((S.H id).c.live=true/\cW (L id)=some b)\/w.heap.size<=b)
  (hnew:dZ w w' (br E S L) (br E {S with H:=bJ S.H id o} (bJ L id l))->(S.gh L).le (St.gh {S with H:=bJ S.H id o} (bJ L id l))->
   wo E w' (br E {S with H:=bJ S.H id o} (bJ L id l)) (St.gh {S with H:=bJ S.H id o} (bJ L id l)) l o.c)
  (hdr:DL w w':=by first|exact DL.refl _|exact DL.of (QI _)|exact DL.of (by first|(simp;done)|omega)):
  Rel E {S with H:=bJ S.H id o} a w' (bJ L id l)/\dZ w w' (br E S L) (br E {S with H:=bJ S.H id o} (bJ L id l))/\(S.gh L).le (St.gh {S with H:=bJ S.H id o} (bJ L id l)):=by
 have hg:(S.gh L).le (St.gh {S with H:=bJ S.H id o} (bJ L id l)):=by
  refine⟨QI _,fun j hj=> ?_⟩
  by_cases hji:j=id
  ·subst hji;rcases hv with⟨e1,e2,_⟩|e
   ·exact .inl ⟨by simp[St.gh,bZ,e1],by simp[St.gh,bZ,e2]⟩
   ·exact .inr (by simpa[St.gh,bZ]using e)
  ·exact .inl ⟨by simp[St.gh,cu _ _ hji],by simp[St.gh,cu _ _ hji]⟩
 have hm:∀b,b<w.heap.size->br E {S with H:=bJ S.H id o} (bJ L id l) b->br E S L b:=by
  rintro b hlt (⟨j,hj,hlive,hblk⟩|hX)
  case inr=>exact .inr hX
  simp only at hj hlive
  by_cases hji:j=id
  ·subst hji;rw[bZ]at hlive hblk;rcases hl b hlive hblk with⟨h1,h2⟩|h1
   ·exact .inl ⟨j,hj,h1,h2⟩
   ·omega
  ·rw[cu _ _ hji]at hlive hblk;exact .inl ⟨j,hj,hlive,hblk⟩
 have ho:Cf w w':=⟨hsz,fun k o hk hc=>(hb k (Q8.1 hk).1 (fun h1 h2=>by
  obtain⟨o',h3,h4⟩:=(h.obj id hid).cells h1 h2;rw[hk]at h3;injection h3 with h3
  rw[h3,h4]at hc
  cases hc)).trans hk⟩
 have hs:dZ w w' (br E S L) (br E {S with H:=bJ S.H id o} (bJ L id l)):=by
  refine⟨fun p v hp hnm=> ?_,fun k _ _ hk hnm=>⟨ho.same k _ hk rfl,fun hm'=>hnm (hm _ (Q8.1 hk).1 hm')⟩⟩
  have hlt:=VQ hp;exact⟨(World.cell?_of_block (hb _ hlt (fun h1 h2=>hnm (.inl ⟨id,hid,h1,h2⟩)))).trans hp,fun hm'=>hnm (hm _ hlt hm')⟩
 refine⟨⟨h.defers.oth ho,h.size,fun t=>(h.env t).mono hs hg,fun j hj=> ?_,?_,fun j hj=> ?_,?_,?_⟩,hs,hg⟩
 ·simp only at hj ⊢
  by_cases hji:j=id
  ·subst hji;rw[bZ,bZ];exact hnew hs hg
  ·rw[cu _ _ hji,cu _ _ hji]
   cases hlv:(S.H j).c.live with
   |false=>
    cases hc:(S.H j).c with
    |dead=>trivial
    |box cs=>rw[hc]at hlv;cases hlv
    |row e k cs=>rw[hc]at hlv;cases hlv
   |true=>
    refine(h.obj j hj).mono hs hg (fun b hbj hlt=>hb b hlt (fun h1 h2=>hji (h.apart j id b hj hid hlv h1 hbj h2)))
 ·intro i j b hi hj hli hlj hbi hbj;simp only at hi hj hli hlj
  by_cases hii:i=id
  ·by_cases hjj:j=id
   ·rw[hii,hjj]
   ·subst hii;rw[bZ]at hli hbi;rw[cu _ _ hjj]at hlj hbj;rcases hl b hli hbi with⟨h1,h2⟩|h1
    ·exact h.apart i j b hi hj h1 hlj h2 hbj
    ·have:=((h.obj j hj).ya hlj hbj).1;omega
  ·rw[cu _ _ hii]at hli hbi
   by_cases hjj:j=id
   ·subst hjj;rw[bZ]at hlj hbj;rcases hl b hlj hbj with⟨h1,h2⟩|h1
    ·exact h.apart i j b hi hj hli h1 hbi h2
    ·have:=((h.obj i hi).ya hli hbi).1;omega
   ·rw[cu _ _ hjj]at hlj hbj;exact h.apart i j b hi hj hli hlj hbi hbj
 ·simp only at hj ⊢;rw[cu _ _ (by omega)]
  exact h.fresh j hj
 ·refine⟨⟨hos.trans h.fr.os,htape.trans h.fr.tape,hout.trans h.fr.output,QK h.fr.size hsz,fun b h1 h2=> ?_,h.fr.drawn.trans hdr⟩,h.fr.ko.trans ho⟩
  refine(hb b (QJ h1 h.fr.size) (fun h3 h4=> ?_)).trans (h.fr.block b h1 h2)
  rcases((h.obj id hid).ya h3 h4).2 with h5|h5
  ·exact h2 h5
  ·omega
 ·intro hb0 hlv hvr;simp only at hlv hvr
  by_cases hi0:0=id
  ·subst hi0;rw[bZ]at hlv hvr ⊢;rcases hv with⟨e1,e2,e3⟩|e
   ·rw[e2];exact h.BE hb0 e3 (by omega)
   ·omega
  ·rw[cu _ _ hi0]at hlv hvr ⊢;exact h.BE hb0 hlv hvr
theorem Rel.drew(h:Rel E S a w L)(n:Nat)(hn:w.drawn<=n:=by first|exact QI _|exact Nat.le_add_right _ _|exact Nat.le_succ _|assumption|omega):Rel E S a {w with drawn:=n} L:=
 (h.grow (w':={w with drawn:=n}) rfl rfl rfl (QI _) (fun _ _=>rfl) (DL.of hn)).1
theorem Rel.room(h:Rel E S a w L)(k:Nat):Rel E {S with N:=S.N+k} a w L:=by
 have hm:∀b,br E {S with N:=S.N+k} L b↔br E S L b:=by
  intro b;constructor
  ·rintro(⟨j,hj,hl,hb⟩|hX)
   case inr=>exact .inr hX
   simp only at hj hl
   by_cases hlt:j<S.N
   ·exact .inl ⟨j,hlt,hl,hb⟩
   ·rw[h.fresh j (by omega)]at hl
    cases hl
  ·rintro(⟨j,hj,hl,hb⟩|hX)
   ·exact .inl ⟨j,by simp only;omega,hl,hb⟩
   ·exact .inr hX
 have hs:dZ w w (br E S L) (br E {S with N:=S.N+k} L):=(dZ.of fun _ hn=>fun hm'=>hn ((hm _).1 hm'))
 have hg:(S.gh L).le (St.gh {S with N:=S.N+k} L):=⟨by simp[St.gh],fun _ _=> .inl ⟨rfl,rfl⟩⟩
 refine⟨h.defers,h.size,fun t=>(h.env t).mono hs hg,fun id hid=> ?_,fun i j b hi hj hli hlj hbi hbj=> ?_,fun id hid=>h.fresh id (by simp only at hid;omega),h.fr,h.BE⟩
 ·by_cases hlt:id<S.N
  ·exact(h.obj id hlt).mono hs hg (fun _ _ _=>rfl)
  ·simp only;rw[h.fresh id (by omega)]
   trivial
 ·simp only at hi hj hli hlj
  have hi':i<S.N:=by
   rcases Nat.lt_or_ge i S.N with h1|h1
   ·exact h1
   ·rw[h.fresh i h1]at hli;cases hli
  have hj':j<S.N:=by
   rcases Nat.lt_or_ge j S.N with h1|h1
   ·exact h1
   ·rw[h.fresh j h1]at hlj;cases hlj
  exact h.apart i j b hi' hj' hli hlj hbi hbj
end
end
section
open Go.RowKit
inductive bn where
 |tmp (t:Nat)
 |oY (x:PV)
def bn.val(S:St):bn->PV
 | .tmp t=>S.env t
 | .oY x=>x
inductive LK where
 |i
 |s
 |b
inductive PQ where
 |Gf
 |mV (lo hi:Bool)
 |b2s
 |Y1 (T:TypeId)
 |UU (T:TypeId) (z:PV)
 |Ha (neg:Bool)
 |neg
 |mkm
 |bad
inductive bS where
 |lI (x:bn)
 |pick (c x y:bn)
 |box (x:bn)
 |Du (x:bn)
 |alloc (z:List PV)
 |load (n:Option Nat) (p:bn)
 |store (n:Nat) (p x:bn)
 |build (z:List PV) (ps:List (Nat×Nat×bn))
 |MT (m:Bool) (e k:Nat) (z:List (List PV)) (ps:List (Nat×bn))
 |zN (off:Nat) (p:bn)
 |zK (k:Nat) (x i:bn)
 |zQ (k len:Nat) (x i:bn)
 |bin (op:BinOp) (x y:bn)
 |nR (neg:Bool) (x y:bn)
 |Hl (neg:Bool) (x y:bn)
 |not (x:bn)
 |conv (k:IntKind) (x:bn)
 |len (isStr:Bool) (x:bn)
 |call (f:FuncId) (xs:List bn)
 |vb (fv:bn) (xs:List bn)
 |cY (fz:Bool) (e k bytes:Nat) (s x:bn)
 |zG (x:bn)
 |vy (i:Nat) (x:bn)
 |Jj (f:FuncId) (caps:List bn)
 |Jk (f:FuncId) (first:List bn)
 |D8 (neg:Bool) (ks:List LK) (x y:bn)
 |LJ (e k bytes:Nat) (z:List PV) (l c:bn)
 |Gc (k:Nat) (x:bn) (lo hi:Option bn)
 |tY (mx:Bool) (x y:bn)
 |xS (neg:Bool) (x:bn)
 |xp (x i:bn)
 |Dw (e:Nat) (n:Option Nat) (len k:Nat) (x i:bn)
 |Jv (n:Option Nat) (off:Nat) (x:bn)
 |ow (q:PQ) (xs:List bn)
 |JA (e k:Nat) (x y:bn)
inductive RK where
 |no
 |ZK (e k:Nat)
 |O1 (e k:Nat)
 |fre (e k:Nat)
structure Model where
 recv:Bool
 pos:Nat
 fresh:Bool
 m:List PV->List PV->Option (PV×List PV)
 rk:RK
 ro:Bool
 rm:List (List PV)->List PV->Option (PV×List (List PV))
abbrev mR:=FuncId->Option Model
def cutAt{α:Type}(p:Nat)(l:List α):List α:=l.take p++l.drop (p+1)
def iX{α:Type}(p:Nat)(x l:List α):List α:=l.take p++x++l.drop p
def PV.closed:PV->Bool
 | .int ..| .bool _| .str _| .jW| .dW| .sl _| .ref _| .jg ..| .mX _| .jw ..=>true
 | .bY _ []=>true
 |_=>false
def PV.oS:PV->Bool
 | .agg cs=>cs.all PV.plain
 |x=>x.plain
def PV.tT:PV->Bool
 | .dg cs=>cs.all PV.oS
 |x=>x.oS
def PV.bw:PV->Bool
 | .agg cs| .dg cs| .bY _ cs=>cs.all PV.closed
 |x=>x.closed
def PV.u7:PV->Bool
 | .dg cs=>cs.all PV.bw
 |x=>x.bw
def fz(H:Nat->fE)(ex:Option Nat):Nat->PV->PV
 |0,x=>match x with| .dW=> .sl []|x=>if x.closed then x else .any
 |_+1,.dW=> .sl []
 |n+1,.own id ak=>if some id=ex\/(H id).ak≠ak then .any else
   match(H id).c with
   | .row _ _ es=> .sl (es.map fun e=>e.map (fz H ex n))
   |_=> .any
 |n+1,.ptr id ak off=>if some id=ex\/(H id).ak≠ak then .any else
   match(H id).c with
   | .box cs=> .ref ((cs.map (fz H ex n)).drop off)
   |_=> .any
 |n+1,.agg cs=> .agg (cs.map (fz H ex n))
 |n+1,.dg cs=> .dg (cs.map (fz H ex n))
 |n+1,.bY f cs=> .bY f (cs.map (fz H ex n))
 |_+1,x=>if x.closed then x else .any
def nz:PV->PV
 | .dW=> .sl []
 |x=>x
def PV.R7:PV->Bool
 | .dW=>false
 |_=>true
def BL(es:List (List PV)):List (List PV):=es.map fun e=>e.map nz
def BK(es:List (List PV)):Bool:=es.all fun u=>u.all PV.closed
def BI(es:List (List PV)):Bool:=es.all fun u=>u.all PV.plain
def zj(m:Model)(e k:Nat)(S:St)(args:List PV):Option (PV×Option (Nat×fE)):=
 match args with
 | .own id ak::rest=>
  if(S.H id).ak=ak then
   match(S.H id).c with
   | .row e' k' es=>
    if e'=e/\k'=k/\BK es=true then
     match m.rm es (rest.map (fz S.H (some id) 9))with
     |some (r,es')=>if(r.tT||rest.all PV.bw&&r.u7)&&BK es'&&(BI es'||rest.all PV.bw)then some (r,some (id,⟨ak,.row e k es'⟩))else none
     |none=>none
    else none
   |_=>none
  else none
 |_=>none
def zi(m:Model)(e k:Nat)(S:St)(args:List PV):Option (PV×Option (Nat×fE)):=
 match args with
 | .own id ak::rest=>
  if(S.H id).ak=ak then
   match(S.H id).c with
   | .row e' k' es=>
    if e'=e/\k'=k/\BK es=true then
     match m.rm es (rest.map (fz S.H (some id) 9))with
     |some (_,es')=>if BK es'&&(BI es'||rest.all PV.bw)then some (.own id (ak+1),some (id,⟨ak+1,.row e k es'⟩))else none
     |none=>none
    else none
   |_=>none
  else none
 |_=>none
def Ed(m:Model)(e k:Nat)(nid:Nat)(S:St)(args:List PV):Option (PV×Option (Nat×fE)):=
 match m.rm [] (args.map (fz S.H none 9))with
 |some (_,es')=>if BK es'&&(BI es'||args.all PV.bw)then some (.own nid ((S.H nid).ak+1),some (nid,⟨(S.H nid).ak+1,.row e k es'⟩))else none
 |none=>none
def kq(Γ:mR)(nid:Nat)(S:St)(f:FuncId)(args:List PV):Option (PV×Option (Nat×fE)):=
 match Γ f with
 |none=>none
 |some m=>
  match m.rk with
  | .ZK e k=>zj m e k S args
  | .O1 e k=>zi m e k S args
  | .fre e k=>Ed m e k nid S args
  | .no=>
  if m.fresh then
   match m.m [] (args.map (fz S.H none 9))with
   |some (_,cs)=>if cs.all PV.closed&&(cs.all PV.plain||args.all PV.bw)then some (.ptr nid ((S.H nid).ak+1) 0,some (nid,⟨(S.H nid).ak+1,.box cs⟩))else none
   |none=>none
  else if m.recv then
   match args[m.pos]? with
   |some (.ptr id ak 0)=>
    if(S.H id).ak=ak then
     match(S.H id).c with
     | .box cs=>
      if cs.all PV.closed then
       match m.m (cs.map nz) ((cutAt m.pos args).map (fz S.H (some id) 9))with
       |some (r,cs')=>if(r.tT||(cutAt m.pos args).all PV.bw)&&r.u7&&cs'.all PV.closed&&(cs'.all PV.plain||(cutAt m.pos args).all PV.bw)then some (r,if m.ro&&cs.all PV.R7 then none else some (id,⟨ak,.box cs'⟩))else none
       |none=>none
      else none
     |_=>none
    else none
   |_=>none
  else
   match m.m [] (args.map (fz S.H none 9))with
   |some (r,_)=>if r.tT||args.all PV.bw&&r.u7 then some (r,none)else none
   |none=>none
def HC(op:BinOp)(k:IntKind)(a b:Int):Option PV:=
 match op with
 | .add=>some (.int k (k.wrap (a+b)))
 | .sub=>some (.int k (k.wrap (a - b)))
 | .mul=>some (.int k (k.wrap (a*b)))
 | .quo=>if b=0 then none else some (.int k (k.wrap (a.tdiv b)))
 | .rem=>if b=0 then none else some (.int k (a.tmod b))
 | .and=>some (.int k (k.wrap ((BitVec.ofInt k.bits a&&&BitVec.ofInt k.bits b).toNat)))
 | .or=>some (.int k (k.wrap ((BitVec.ofInt k.bits a|||BitVec.ofInt k.bits b).toNat)))
 | .xor=>some (.int k (k.wrap ((BitVec.ofInt k.bits a^^^BitVec.ofInt k.bits b).toNat)))
 | .andNot=>some (.int k (k.wrap ((BitVec.ofInt k.bits a&&& ~~~ BitVec.ofInt k.bits b).toNat)))
 | .eql=>some (.bool (decide (a=b)))
 | .neq=>some (.bool (!decide (a=b)))
 | .lss=>some (.bool (decide (a<b)))
 | .leq=>some (.bool (decide (a<=b)))
 | .gtr=>some (.bool (decide (b<a)))
 | .geq=>some (.bool (decide (b<=a)))
 |_=>none
def jV(a b:ByteArray):Bool:=Op.bytesLess a.toList b.toList
def MU(op:BinOp)(a b:ByteArray):Option PV:=
 match op with
 | .eql=>some (.bool (decide (a=b)))
 | .neq=>some (.bool (!decide (a=b)))
 | .lss=>some (.bool (jV a b))
 | .leq=>some (.bool (jV a b||decide (a=b)))
 | .gtr=>some (.bool (!(jV a b||decide (a=b))))
 | .geq=>some (.bool (!jV a b))
 |_=>none
def Io(op:BinOp)(x y:PV):Option PV:=
 match x,y with
 | .int k a,.int k' b=>
  match op with
  | .shl=>if b<0 then none else some (.int k (k.wrap (a*2 ^ (min b.toNat k.bits))))
  | .shr=>if b<0 then none else some (.int k (a.fdiv (2 ^ (min b.toNat k.bits))))
  |_=>if k=k' then HC op k a b else none
 | .str a,.str b=>MU op a b
 |_,_=>none
def xb:Option Nat->List PV->Option PV
 |none,x::_=>some x
 |none,[]=>none
 |some n,cs=>if n<=cs.length then some (.agg (cs.take n))else none
def gW(cs:List PV)(off:Nat)(xs:List PV):List PV:=cs.take off++xs++cs.drop (off+xs.length)
def iY(S:St):PV->Option (List (List PV))
 | .dW=>some []
 | .sl es=>some es
 | .own id ak=>if(S.H id).ak=ak then(match(S.H id).c with| .row _ _ es=>some es|_=>none)else none
 | .view id ak k lo n=>if(S.H id).ak=ak then(match(S.H id).c with| .row _ k' es=>if k'=k then some ((es.drop lo).take n)else none|_=>none)else none
 |_=>none
def sV(S:St)(y:Option bn)(d:Int):Option Int:=
 match y with
 |none=>some d
 |some l=>match l.val S with| .int _ n=>some n|_=>none
def qO(S:St):List PV->List (Nat×Nat×bn)->Option (List PV)
 |cs,[]=>some cs
 |cs,(off,n,x)::rest=>
  if(x.val S).cells.length=n/\off+n<=cs.length/\(x.val S).cells.all PV.one=true then qO S (gW cs off (x.val S).cells) rest else none
def uf(S:St)(k:Nat):List (List PV)->List (Nat×bn)->Option (List (List PV))
 |es,[]=>some es
 |es,(i,x)::rest=>
  if(x.val S).cells.length=k/\i<es.length/\(x.val S).cells.all PV.one=true then uf S k (es.set i (x.val S).cells) rest else none
def xp(s:ByteArray)(n:Int):Option Int:=if 0<=n then(s[n.toNat]?).map fun b=>(b.toNat:Int)else none
def ln:List LK->List PV->List PV->Option Bool
 |[],[],[]=>some true
 | .i::ks,.int k a::cs,.int l b::ds=>if k=l then(ln ks cs ds).map fun r=>decide (a=b)&&r else none
 | .s::ks,.str a::cs,.str b::ds=>(ln ks cs ds).map fun r=>decide (a=b)&&r
 | .b::ks,.bool a::cs,.bool b::ds=>(ln ks cs ds).map fun r=>decide (a=b)&&r
 |_,_,_=>none
def HD(z:Bool)(id ak e k:Nat)(es:List (List PV)):Option (PV×Option (Nat×fE)):=
 match z with
 |false=>some (.own id ak,some (id,⟨ak,.row e k es⟩))
 |true=>if es.all (fun u=>u.all PV.closed)then some (.sl es,some (id,⟨ak,.dead⟩))else none
def byteOf(n:Int):Option UInt8:=if 0<=n/\n<256 then some (UInt8.ofNat n.toNat)else none
def bytesOf:List (List PV)->Option (List UInt8)
 |[]=>some []
 |[.int .u8 n]::l=>match byteOf n,bytesOf l with
  |some b,some bs=>some (b::bs)
  |_,_=>none
 |_=>none
def Gf(a b:ByteArray):Option ByteArray:=if a.size+b.size<=9223372036854775807 then some (a++b)else none
def mV(s:ByteArray)(l h:Int):Option ByteArray:=if 0<=l/\l<=h/\h<=s.size then some (s.extract l.toNat h.toNat)else none
def na:PQ->List PV->Option PV
 | .Gf,[.str a,.str b]=>(Gf a b).map .str
 | .mV false false,[.str s]=>some (.str s)
 | .mV true false,[.str s,.int _ l]=>(mV s l s.size).map .str
 | .mV false true,[.str s,.int _ h]=>(mV s 0 h).map .str
 | .mV true true,[.str s,.int _ l,.int _ h]=>(mV s l h).map .str
 | .b2s,[.sl es]=>(bytesOf es).map fun l=> .str ⟨l.toArray⟩
 | .Y1 T,[x]=>if x.plain&&x.one then some (.jw T x)else none
 | .UU T z,[.jw T' x]=>some (if T'=T then .dg [x,.bool true]else .dg [z,.bool false])
 | .UU _ z,[.mX true]=>some (.dg [z,.bool false])
 | .Ha neg,[.jw ..]=>some (.bool neg)
 | .Ha neg,[.mX b]=>some (.bool (xor neg b))
 | .neg,[.int k n]=>some (.int k (k.wrap (0 - n)))
 | .mkm,[]=>some .any
 |_,_=>none
def jL{α:Type}(xs:List α)(lo n:Nat)(ys:List α):List α:=xs.take lo++ys.take n++xs.drop (lo+min n ys.length)
def exec(Γ:mR)(nid:Nat)(S:St):bS->Option (PV×Option (Nat×fE))
 | .lI x=>some (x.val S,none)
 | .pick c x y=>match c.val S with
  | .bool true=>some (x.val S,none)
  | .bool false=>some (y.val S,none)
  |_=>none
 | .box x=>if(x.val S).cells.all PV.one then some (.ptr nid ((S.H nid).ak+1) 0,some (nid,⟨(S.H nid).ak+1,.box (x.val S).cells⟩))else none
 | .Du x=>if(x.val S).cells.all PV.one&&(x.val S).cells.all PV.closed then some (.ref (x.val S).cells,none)else none
 | .alloc z=>some (.ptr nid ((S.H nid).ak+1) 0,some (nid,⟨(S.H nid).ak+1,.box z⟩))
 | .load n p=>match p.val S with
  | .ptr id ak off=>if(S.H id).ak=ak then(match(S.H id).c with| .box cs=>(xb n (cs.drop off)).map (·,none)|_=>none)else none
  | .eN id ak k i off=>if(S.H id).ak=ak then(match(S.H id).c with| .row _ k' es=>if k=k' then(match es[i]? with|some e=>(xb n (e.drop off)).map (·,none)|none=>none)else none|_=>none)else none
  | .ref cs=>(xb n cs).map (·,none)
  |_=>none
 | .store n p x=>if(x.val S).cells.length=n/\(x.val S).cells.all PV.one=true then
   match p.val S with
   | .ptr id ak off=>if(S.H id).ak=ak then(match(S.H id).c with| .box cs=>if off+n<=cs.length then some (.undef,some (id,⟨ak,.box (gW cs off (x.val S).cells)⟩))else none|_=>none)else none
   | .eN id ak k i off=>if(S.H id).ak=ak then(match(S.H id).c with| .row e k' es=>if k=k' then(match es[i]? with|some c=>if off+n<=c.length then some (.undef,some (id,⟨ak,.row e k (es.set i (gW c off ((x.val S).cells.map nz)))⟩))else none|none=>none)else none|_=>none)else none
   |_=>none
  else none
 | .build z ps=>(qO S z ps).map fun cs=>(.agg cs,none)
 | .MT m e k z ps=>match uf S k z ps with
  |some es=>if m=false/\es.all (fun u=>u.all PV.closed)=true then some (.sl (BL es),none)else some (.own nid ((S.H nid).ak+1),some (nid,⟨(S.H nid).ak+1,.row e k (BL es)⟩))
  |none=>none
 | .zN off p=>match p.val S with
  | .ptr id ak o=>if(S.H id).ak=ak then(match(S.H id).c with| .box _=>some (.ptr id ak (o+off),none)|_=>none)else none
  | .eN id ak k i o=>if(S.H id).ak=ak then(match(S.H id).c with| .row _ _ es=>if i<es.length then some (.eN id ak k i (o+off),none)else none|_=>none)else none
  | .ref cs=>some (.ref (cs.drop off),none)
  |_=>none
 | .zK k x i=>match i.val S with
  | .int _ n=>match x.val S with
   | .sl es=>if 0<=n/\n<es.length then(match es[n.toNat]? with|some e=>if e.length=k then some (.ref e,none)else none|none=>none)else none
   | .own id ak=>if(S.H id).ak=ak then(match(S.H id).c with| .row _ k' es=>if k=k'/\0<=n/\n<es.length then some (.eN id ak k n.toNat 0,none)else none|_=>none)else none
   | .view id ak k0 lo m=>if(S.H id).ak=ak then(match(S.H id).c with| .row _ k' es=>if k=k'/\k0=k/\0<=n/\n<m/\lo+n.toNat<es.length then some (.eN id ak k (lo+n.toNat) 0,none)else none|_=>none)else none
   |_=>none
  |_=>none
 | .zQ k len x i=>match i.val S with
  | .int _ n=>if 0<=n/\n<len then(match x.val S with
   | .ptr id ak o=>if(S.H id).ak=ak then(match(S.H id).c with| .box _=>some (.ptr id ak (o+n.toNat*k),none)|_=>none)else none
   | .ref cs=>some (.ref (cs.drop (n.toNat*k)),none)
   |_=>none)else none
  |_=>none
 | .bin op x y=>(Io op (x.val S) (y.val S)).map (·,none)
 | .nR neg x y=>match x.val S,y.val S with
  | .agg [.int k a,.str s],.agg [.int k' b,.str t]=>if k=k' then some (.bool (xor neg (decide (a=b)&&decide (s=t))),none)else none
  |_,_=>none
 | .D8 neg ks x y=>match x.val S,y.val S with
  | .agg cs,.agg ds=>(ln ks cs ds).map fun b=>(.bool (xor neg b),none)
  |_,_=>none
 | .Hl neg x y=>match x.val S,y.val S with
  | .bool a,.bool b=>some (.bool (xor neg (decide (a=b))),none)
  |_,_=>none
 | .not x=>match x.val S with
  | .bool b=>some (.bool !b,none)
  |_=>none
 | .conv k x=>match x.val S with
  | .int _ n=>some (.int k (k.wrap n),none)
  |_=>none
 | .len true x=>match x.val S with
  | .str s=>some (.int .i64 s.size,none)
  |_=>none
 | .len false x=>(iY S (x.val S)).map fun es=>(.int .i64 es.length,none)
 | .call f xs=>kq Γ nid S f (xs.map (·.val S))
 | .vb fv xs=>match fv.val S with
  | .bY f caps=>kq Γ nid S f (xs.map (·.val S)++caps)
  | .jx f first=>kq Γ nid S f (first++xs.map (·.val S))
  |_=>none
 | .cY z e k bytes s x=>match iY S (x.val S)with
  |some news=>if news.all (fun u=>u.length==k&&u.all PV.one)then(match s.val S with
   | .dW=>if news.length*bytes<=140737488355328/\news.length<=maxLen then HD z nid ((S.H nid).ak+1) e k news else none
   | .own id ak=>if(S.H id).ak=ak then(match(S.H id).c with
    | .row e' k' es=>if e=e'/\k=k'/\(es.length+news.length)*bytes<=140737488355328/\es.length+news.length<=maxLen then HD z id (ak+1) e k (es++news)else none
    |_=>none)else none
   |_=>none)else none
  |none=>none
 | .zG x=>match x.val S with
  | .ptr id ak off=>if(S.H id).ak=ak then(match(S.H id).c with| .box _=>some (.ptr id ak off,none)|_=>none)else none
  | .ref cs=>some (.ref cs,none)
  | .bY f cs=>some (.bY f cs,none)
  |_=>none
 | .vy i x=>match x.val S with
  | .dg cs=>(cs[i]?).map (·,none)
  |_=>none
 | .Jj f caps=>some (.bY f (caps.map (·.val S)),none)
 | .Jk f first=>some (.jx f (first.map (·.val S)),none)
 | .LJ e k bytes z l c=>match l.val S,c.val S with
  | .int _ n,.int _ m=>if n<=m/\0<=n/\m.toNat*bytes<=140737488355328/\m.toNat<=maxLen then some (.own nid ((S.H nid).ak+1),some (nid,⟨(S.H nid).ak+1,.row e k (List.replicate n.toNat (z.map nz))⟩))else none
  |_,_=>none
 | .Gc k x lo hi=>match x.val S with
  | .sl es=>if es.all (fun e=>e.length==k)then
   match(match lo with|none=>some (0:Int)|some l=>(match l.val S with| .int _ n=>some n|_=>none)),(match hi with|none=>some (es.length:Int)|some h=>(match h.val S with| .int _ n=>some n|_=>none))with
   |some l,some h=>if 0<=l/\l<=h/\h<=es.length then some (.sl ((es.take h.toNat).drop l.toNat),none)else none
   |_,_=>none
   else none
  | .own id ak=>if(S.H id).ak=ak then(match(S.H id).c with
   | .row _ k' es=>if k=k' then
    match sV S lo 0,sV S hi es.length with
    |some l,some h=>if 0<=l/\l<=h/\h<=es.length then some (.view id ak k l.toNat (h.toNat - l.toNat),none)else none
    |_,_=>none
    else none
   |_=>none)else none
  | .view id ak k0 lo0 n0=>if(S.H id).ak=ak then(match(S.H id).c with
   | .row _ k' _=>if k=k'/\k0=k then
    match sV S lo 0,sV S hi n0 with
    |some l,some h=>if 0<=l/\l<=h/\h<=n0 then some (.view id ak k (lo0+l.toNat) (h.toNat - l.toNat),none)else none
    |_,_=>none
    else none
   |_=>none)else none
  |_=>none
 | .tY mx x y=>match x.val S,y.val S with
  | .int k a,.int k' b=>if k=k' then some (.int k (if mx then(if b>a then b else a)else(if b<a then b else a)),none)else none
  |_,_=>none
 | .xS neg x=>match x.val S with
  | .dW=>some (.bool !neg,none)
  |y=>match iY S y with
   |some []=>some (.fW,none)
   |some (_::_)=>some (.bool neg,none)
   |none=>none
 | .xp x i=>match x.val S,i.val S with
  | .str s,.int _ n=>(xp s n).map fun b=>(.int .u8 b,none)
  |_,_=>none
 | .Dw _ n len k x i=>match x.val S,i.val S with
  | .agg cs,.int _ j=>if 0<=j/\j<len then(xb n ((cs.drop (j.toNat*k)).map nz)).map (·,none)else none
  |_,_=>none
 | .Jv n off x=>match x.val S with
  | .agg cs=>(xb n (cs.drop off)).map (·,none)
  |_=>none
 | .ow q xs=>(na q (xs.map (·.val S))).map (·,none)
 | .JA e k x y=>match iY S (y.val S)with
  |none=>none
  |some ys=>match x.val S with
   | .own id ak=>if(S.H id).ak=ak then(match(S.H id).c with
    | .row e' k' es=>if e=e'/\k=k'/\ys.all (fun u=>u.length==k&&u.all PV.one)=true then some (.int .i64 (min es.length ys.length:Nat),some (id,⟨ak,.row e k (jL es 0 es.length ys)⟩))else none
    |_=>none)else none
   | .view id ak k0 lo n=>if(S.H id).ak=ak then(match(S.H id).c with
    | .row e' k' es=>if e=e'/\k=k'/\k0=k/\ys.all (fun u=>u.length==k&&u.all PV.one)=true then some (.int .i64 (min n ys.length:Nat),some (id,⟨ak,.row e k (jL es lo n ys)⟩))else none
    |_=>none)else none
   |_=>none
structure SG where
 d:Option Nat
 g:Option (Nat×Bool)
 op:bS
def St.cY(S:St)(d:Option Nat)(x:PV)(wr:Option (Nat×fE)):St:=
 {env:=match d with|some d=>bJ S.env d x|none=>S.env,H:=match wr with|some (id,o)=>bJ S.H id o|none=>S.H,N:=S.N}
def SG.wanted(S:St)(o:SG):Option Bool:=
 match o.g with
 |none=>some true
 |some (t,want)=>match S.env t with
  | .bool b=>some (b==want)
  | .undef=>some false
  |_=>none
def z8(Γ:mR)(nid:Nat)(S:St)(o:SG):Option St:=
 match o.wanted S with
 |some true=>(exec Γ nid S o.op).map fun p=>S.cY o.d p.1 p.2
 |some false=>some (S.cY o.d .undef none)
 |none=>none
def AB(Γ:mR):Nat->List SG->St->Option St
 |_,[],S=>some S
 |nid,o::rest,S=>match z8 Γ nid S o with
  |some S'=>AB Γ (nid+1) rest S'
  |none=>none
def xg:Value->Option PV
 | .bool b=>some (.bool b)
 | .int k n=>some (.int k n)
 | .string s=>some (.str s)
 | .pointer none=>some .jW
 | .slice none 0 0=>some .dW
 | .nilFunc=>some .any
 | .nilIface=>some (.mX true)
 |_=>none
def bd:Operand->Option bn
 | .tmp t=>some (.tmp t)
 | .const v=>(xg v).map .oY
 | .func f=>some (.oY (.bY f []))
 | .global _=>none
def s4(P:Program)(t:TypeId):Option (Option Nat):=
 match P.underlying t with
 |some (.struct _)|some (.array _ _)=>(P.info? t).map fun i=>some i.size
 |some _=>some none
 |none=>none
def xo(P:Program)(t:TypeId):Option (List PV):=
 match P.info? t with
 |some i=>match i.zero with
  |some z=>if z.cells.size=i.size then z.cells.toList.mapM xg else none
  |none=>none
 |none=>none
def vT(place:Nat->Option (Nat×Nat))(parts:List (Nat×Operand)):Option (List (Nat×Nat×bn)):=
 parts.mapM fun p=>do
  let q <-place p.1
  let y <-bd p.2
  some (q.1,q.2,y)
def NZ(P:Program)(sh:TypeId->Option (List LK)):List Field->Nat->Option (List LK)
 |[],_=>some []
 |f::fs,off=>
  if f.name≠ "_"/\f.offset=off then
   match sh f.type,P.info? f.type with
   |some ks,some i=>if i.size=ks.length then(NZ P sh fs (off+ks.length)).map (ks++·)else none
   |_,_=>none
  else none
def yZ(P:Program):Nat->TypeId->Option (List LK)
 |0,_=>none
 |d+1,t=>match P.underlying t with
  |some (.int _)=>some [.i]
  |some .string=>some [.s]
  |some .bool=>some [.b]
  |some (.struct fs)=>if P.stoodInHeld t=false then NZ P (yZ P d) fs.toList 0 else none
  |_=>none
def abJ(hs:List Nat)(o:Oper):Bool:=match o.dst with|some t=>hs.contains t|none=>false
def Ea(P:Program)(hs:List Nat)(o:Oper):Option bS:=
 match o.op with
 | .move x| .assign x=>do some (.lI (<-bd x))
 | .pick c a b=>do some (.pick (<-bd c) (<-bd a) (<-bd b))
 | .box _ x=>do
  let y <-bd x
  some (match o.dst with|some t=>(match hs.contains t with|true=> .Du y|false=> .box y)|none=> .box y)
 | .alloc t=>do some (.alloc (<-xo P t))
 | .load t p=>do some (.load (<-s4 P t) (<-bd p))
 | .store t p x=>do some (.store (<-P.info? t).size (<-bd p) (<-bd x))
 | .build t parts=>
  match P.underlying t with
  |some (.struct fields)=>do
   let z <-xo P t
   let places <-fields.toList.mapM (fun f=>(P.info? f.type).map fun i=>(f.offset,i.size))
   some (.build z (<-vT (fun i=>places[i]?) parts.toList))
  |some (.array _ e)=>do
   let z <-xo P t
   let i <-P.info? e
   some (.build z (<-vT (fun j=>some (j*i.size,i.size)) parts.toList))
  |_=>none
 | .buildSlice t len parts=>
  match P.underlying t with
  |some (.slice e)=>do
   let i <-P.info? e
   let z <-xo P e
   let ps <-parts.toList.mapM fun p=>(bd p.2).map fun y=>(p.1,y)
   if len*i.size<=16777216/\0<i.size/\len<=maxLen then some (.MT (match o.dst with|some t=>hs.contains t|none=>true) e i.size (List.replicate len z) ps)else none
  |_=>none
 | .fieldAddr s x f=>
  match P.underlying s with
  |some (.struct fields)=>do
   let fd <-fields[f]?
   let i <-P.info? fd.type
   if i.size=0 then none else some (.zN fd.offset (<-bd x))
  |_=>none
 | .indexAddr t x i=>
  match P.underlying t with
  |some (.slice e)=>do some (.zK (<-P.info? e).size (<-bd x) (<-bd i))
  |some (.array n e)=>do some (.zQ (<-P.info? e).size n (<-bd x) (<-bd i))
  |_=>none
 | .binOp op t x y _=>
  match P.underlying t with
  |some (.struct fs)=>
   match fs.toList with
   |[f,g]=>
    match P.underlying f.type,P.underlying g.type with
    |some (.int _),some .string=>
     if f.offset=0/\g.offset=1/\f.name≠ "_"/\g.name≠ "_"/\P.stoodInHeld t=false/\P.eqGuardType P.depth t=false then
      match op with
      | .eql=>do some (.nR false (<-bd x) (<-bd y))
      | .neq=>do some (.nR true (<-bd x) (<-bd y))
      |_=>none
     else none
    |_,_=>
     match yZ P 64 t with
     |some ks=>
      if P.eqGuardType P.depth t=false then
       match op with
       | .eql=>do some (.D8 false ks (<-bd x) (<-bd y))
       | .neq=>do some (.D8 true ks (<-bd x) (<-bd y))
       |_=>none
      else none
     |none=>none
   |_=>
    match yZ P 64 t with
    |some ks=>
     if P.eqGuardType P.depth t=false then
      match op with
      | .eql=>do some (.D8 false ks (<-bd x) (<-bd y))
      | .neq=>do some (.D8 true ks (<-bd x) (<-bd y))
      |_=>none
     else none
    |none=>none
  |some (.slice _)=>
   match y with
   | .const (.slice none 0 0)=>
    match op with
    | .eql=>do some (.xS false (<-bd x))
    | .neq=>do some (.xS true (<-bd x))
    |_=>none
   |_=>none
  |some .bool=>
   match op with
   | .eql=>do some (.Hl false (<-bd x) (<-bd y))
   | .neq=>do some (.Hl true (<-bd x) (<-bd y))
   |_=>none
  |some .string=>
   match op with
   | .add=>do some (.ow .Gf [<-bd x,<-bd y])
   |_=>do some (.bin op (<-bd x) (<-bd y))
  |some (.interface _)=>
   match y with
   | .const .nilIface=>
    match op with
    | .eql=>do some (.ow (.Ha false) [<-bd x])
    | .neq=>do some (.ow (.Ha true) [<-bd x])
    |_=>none
   |_=>none
  |_=>do some (.bin op (<-bd x) (<-bd y))
 | .unOp .not _ x=>do some (.not (<-bd x))
 | .convert src dst x=>
  match P.underlying src,P.underlying dst with
  |some (.int _),some (.int k)=>do some (.conv k (<-bd x))
  |some (.slice e),some .string=>
   match P.underlying e with
   |some (.int .u8)=>do some (.ow .b2s [<-bd x])
   |_=>none
  |_,_=>none
 | .index t x i=>
  match P.underlying t with
  |some .string=>do some (.xp (<-bd x) (<-bd i))
  |some (.array len e)=>do some (.Dw e (<-s4 P e) len (<-P.info? e).size (<-bd x) (<-bd i))
  |_=>none
 | .lookup t m x ok=>
  some (.ow .bad [])
 | .nilCheck x=>do some (.zG (<-bd x))
 | .extract x i=>do some (.vy i (<-bd x))
 | .makeFunc (.func f) first caps=>if first.size=0 then do some (.Jj f (<-caps.toList.mapM bd))else if caps.size=0 then do some (.Jk f (<-first.toList.mapM bd))else none
 | .makeSlice t l c=>
  match P.underlying t with
  |some (.slice e)=>do
   let i <-P.info? e
   if 0<i.size then some (.LJ e i.size i.bytes (<-xo P e) (<-bd l) (<-bd c))else none
  |_=>none
 | .slice t x lo hi none=>
  match P.underlying t with
  |some (.slice e)=>do
   let i <-P.info? e
   some (.Gc i.size (<-bd x) (<-lo.mapM bd) (<-hi.mapM bd))
  |some .string=>
   match lo,hi with
   |none,none=>none
   |some l,none=>do some (.ow (.mV true false) [<-bd x,<-bd l])
   |none,some h=>do some (.ow (.mV false true) [<-bd x,<-bd h])
   |some l,some h=>do some (.ow (.mV true true) [<-bd x,<-bd l,<-bd h])
  |_=>none
 | .call {callee:= .value f,args,..}=>do
  let xs <-args.toList.mapM bd
  match f with
  | .func f=>some (.call f xs)
  |_=>some (.vb (<-bd f) xs)
 | .call {callee:= .builtin b,args,argTypes}=>
  match b,args.toList,argTypes.toList with
  | .len,[x],[t]=>
   match P.underlying t with
   |some .string=>do some (.len true (<-bd x))
   |some (.slice _)=>do some (.len false (<-bd x))
   |_=>none
  | .append,[s,x],[t,t']=>
   match P.underlying t with
   |some (.slice e)=>do
    let i <-P.info? e
    let z <-i.zero
    if t=t'/\z.cells.size=i.size/\0<i.size then some (.cY (abJ hs o) e i.size i.bytes (<-bd s) (<-bd x))else none
   |_=>none
  | .clear,[x],[t]=>
   none
  | .copy,[x,y],[t,t']=>
   match P.underlying t with
   |some (.slice e)=>do
    let i <-P.info? e
    if t=t'/\0<i.size then some (.JA e i.size (<-bd x) (<-bd y))else none
   |_=>none
  | .min,[x,y],_=>do some (.tY false (<-bd x) (<-bd y))
  | .max,[x,y],_=>do some (.tY true (<-bd x) (<-bd y))
  |_,_,_=>none
 | .field t x i=>
  match P.underlying t with
  |some (.struct fs)=>
   match fs[i]? with
   |some f=>do some (.Jv (<-s4 P f.type) f.offset (<-bd x))
   |none=>none
  |_=>none
 | .makeInterface t x=>if P.concrete t=true then do some (.ow (.Y1 t) [<-bd x])else none
 | .typeAssert x _ t true=>
  match P.underlying t,P.info? t with
  |some (.interface _),_=>none
  |some _,some i=>do some (.ow (.UU t (<-xg (<-i.zero))) [<-bd x])
  |_,_=>none
 | .unOp .neg _ x=>do some (.ow .neg [<-bd x])
 | .makeMap _ none=>some (.ow .mkm [])
 | .mapUpdate ..=>some (.ow .bad [])
 |_=>none
end
section
open Go.RowKit
def Mc(recv:Bool)(rb:Nat)(X:Nat->Prop)(b:Nat):Prop:=(recv=true/\b=rb)\/X b
def Enters(P:Program)(f:FuncId):Prop:=∃fn,P.funcs[f]?=some fn/\fn.body.isSome=true/\(fn.name== "runtime.NumGoroutine")=false
def tc(recv:Bool)(rb:Nat):List Value:=if recv then[.pointer (some ⟨rb,0,none⟩)]else[]
def V2(recv:Bool)(rb:Nat)(X:Nat->Prop)(w:World)(r:PV)(cs':List PV)(e:Ending)(w':World):Prop:=
 ∃(v:Value) (rvs':List Value),e= .returned v/\bm w' (Mc recv rb X) dX r v/\(recv=true->(∃T,w'.heap[rb]?=some (.cells rvs'.toArray T (0,0)))/\bg w' (Mc recv rb X) dX cs' rvs')/\
  Fr (if recv then some rb else none) w w'
def Iw(P:Program)(f:FuncId)(pos:Nat)(recv:Bool)(cs args:List PV)(r:PV)(cs':List PV):Prop:=
 ∀(w:World) (X:Nat->Prop) (_:tq w X) (rb:Nat) (T:TypeId) (rvs vs:List Value),
  (recv=true->w.heap[rb]?=some (.cells rvs.toArray T (0,0))/\bg w (Mc recv rb X) dX cs rvs/\¬gb rb)->bg w (Mc recv rb X) dX args vs->
  Calls P f (iX pos (tc recv rb) vs).toArray w (V2 recv rb X w r cs')
abbrev M4(P:Program)(f:FuncId):=Iw P f 0
theorem OM{α:Type}(p:Nat)(l:List α):iX p [] l=l:=by simp[iX]
def XZ(P:Program)(f:FuncId)(args cs:List PV):Prop:=
 ∀(w:World) (X:Nat->Prop) (_:tq w X) (vs:List Value),bg w X dX args vs->
  Calls P f vs.toArray w fun e w'=>∃(b:Nat) (rvs:List Value) (T:TypeId),e= .returned (.pointer (some ⟨b,0,none⟩))/\w.heap.size<=b/\w'.heap[b]?=some (.cells rvs.toArray T (0,0))/\bg w' (fun q=>X q\/q=b) dX cs rvs/\Fr none w w'
def C0(w:World)(M:Nat->Prop)(e k:Nat)(v:Value)(es:List (List PV)):Prop:=
 ∃(vs:List Value),w.ownsRow 0 e k v es.length vs/\(∀x∈es,x.length=k)/\bg w M dX es.flatten vs
def Mv(v:Value)(X:Nat->Prop)(b:Nat):Prop:=cW v=some b\/X b
def XY(P:Program)(f:FuncId)(e k:Nat)(es:List (List PV))(args:List PV)(r:PV)(es':List (List PV)):Prop:=
 ∀(w:World) (X:Nat->Prop) (_:tq w X) (v:Value) (vs:List Value),(∀b,cW v=some b->¬X b/\¬gb b)->C0 w (Mv v X) e k v es->bg w (Mv v X) dX args vs->
  Calls P f (v::vs).toArray w fun en w'=>∃u,en= .returned u/\bm w' (Mv v X) dX r u/\C0 w' (Mv v X) e k v es'/\Fr (cW v) w w'
def Uc(P:Program)(f:FuncId)(e k:Nat)(es:List (List PV))(args:List PV)(es':List (List PV)):Prop:=
 ∀(w:World) (X:Nat->Prop) (_:tq w X) (v:Value) (vs:List Value),(∀b,cW v=some b->¬X b/\¬gb b)->C0 w (Mv v X) e k v es->bg w (Mv v X) dX args vs->
  Calls P f (v::vs).toArray w fun en w'=>∃u,en= .returned u/\C0 w' (Mv u X) e k u es'/\(∀b,cW u=some b->cW v=some b\/w.heap.size<=b)/\Fr (cW v) w w'
def abE(P:Program)(f:FuncId)(args:List PV)(e k:Nat)(es':List (List PV)):Prop:=
 ∀(w:World) (X:Nat->Prop) (_:tq w X) (vs:List Value),bg w X dX args vs->
  Calls P f vs.toArray w fun en w'=>∃u,en= .returned u/\C0 w' (Mv u X) e k u es'/\(∀b,cW u=some b->w.heap.size<=b)/\Fr none w w'
structure Fr2 (b c:Nat) (w0 w:World):Prop where
 os:w.os=w0.os
 tape:w.tape=w0.tape
 output:w.output=w0.output
 size:w0.heap.size<=w.heap.size
 block:∀k,k<w0.heap.size->k≠b->k≠c->w.heap[k]?=w0.heap[k]?
 drawn:DL w0 w
def abF(P:Program)(f:FuncId)(cs ds cs' ds':List PV):Prop:=
 ∀(w:World) (M:Nat->Prop) (b c:Nat) (T U:TypeId) (us vs:List Value),tq w M->M b->M c->b≠c->w.heap[b]?=some (.cells us.toArray T (0,0))->w.heap[c]?=some (.cells vs.toArray U (0,0))->bg w M dX cs us->bg w M dX ds vs->
  Calls P f #[.pointer (some ⟨b,0,none⟩),.pointer (some ⟨c,0,none⟩)] w fun e w'=>∃(us' vs':List Value) (T' U':TypeId),e= .returned (.tuple #[])/\w'.heap[b]?=some (.cells us'.toArray T' (0,0))/\
   w'.heap[c]?=some (.cells vs'.toArray U' (0,0))/\bg w' M dX cs' us'/\bg w' M dX ds' vs'/\Fr2 b c w w'
def abD(P:Program)(f g:FuncId)(args:List PV)(e k:Nat)(es':List (List PV)):Prop:=
 ∀(w:World) (X:Nat->Prop) (_:tq w X) (vs:List Value),bg w X dX args vs->
  Calls P f vs.toArray w fun en w1=>∃v,en= .returned v/\Calls P g #[v] w1 fun en w'=>∃u,en= .returned u/\C0 w' (Mv u X) e k u es'/\(∀b,cW u=some b->w.heap.size<=b)/\Fr none w w'
def Fx(P:Program)(f:FuncId)(m:Model):Prop:=
 match m.rk with
 | .no=>True
 | .ZK e k=>∀es args r es',m.rm es args=some (r,es')->XY P f e k es args r es'
 | .O1 e k=>∀es args r es',m.rm es args=some (r,es')->Uc P f e k es args es'
 | .fre e k=>∀args r es',m.rm [] args=some (r,es')->abE P f args e k es'
def ZW(P:Program)(f:FuncId)(m:Model):Prop:=
 Enters P f/\(m.fresh=false->∀cs args r cs',m.m cs args=some (r,cs')->Iw P f m.pos m.recv cs args r cs')/\(m.fresh=true->∀args r cs,m.m [] args=some (r,cs)->XZ P f args cs)/\Fx P f m/\(m.ro=true->∀cs args r cs',m.m cs args=some (r,cs')->cs'=cs)
def lR(P:Program)(Γ:mR):Prop:=∀f m,Γ f=some m->ZW P f m
section
variable {P : Program} {E : En} {S : St} {a : Act} {w : World} {L : Nat -> Value}
theorem zP{M:Nat->Prop}{G:Gh}{v:Value}{x:PV}(h:xg v=some x):bm w M G x v:=by
 unfold xg at h;split at h<;>first|(injection h with h;subst h;first|exact .bool _|exact .int _ _|exact .str _|exact .jW|exact .dW|exact .wM|exact .any _)|cases h
theorem Rel.fj(h:Rel E S a w L){x:Operand}{y:bn}(hc:bd x=some y):bm w (br E S L) (S.gh L) (y.val S) (a.eval x):=by
 cases x with
 |tmp t=>simp only[bd,Qf]at hc;subst hc;exact h.env t
 |const v=>
  simp only[bd,Qb]at hc;obtain⟨p,hp,rfl⟩:=hc;exact zP hp
 |global g=>simp[bd]at hc
 |func f=>
  simp only[bd,Qf]at hc;subst hc;exact .bY f [] [] rfl (fun i x v hx _=>by simp at hx)
theorem Rel.dj(h:Rel E S a w L):∀{xs:List Operand} {ys:List bn},xs.mapM bd=some ys->bg w (br E S L) (S.gh L) (ys.map (·.val S)) (xs.map a.eval)
 |[],ys,hc=>by simp at hc;subst hc;exact .nil
 |x::xs,ys,hc=>by
  simp only[Qq74,Qd,Qc,Option.pure_def,Qf]at hc;obtain⟨y,hy,zs,hzs,rfl⟩:=hc;exact .cons (h.fj hy) (h.dj hzs)
section
variable {M : Nat -> Prop} {G : Gh} {v : Value}
theorem bm.ku{b:Bool}(h:bm w M G (.bool b) v):v= .bool b:=by cases h;rfl
theorem bm.eV{k:IntKind}{n:Int}(h:bm w M G (.int k n) v):v= .int k n:=by cases h;rfl
theorem bm.nq{s:ByteArray}(h:bm w M G (.str s) v):v= .string s:=by cases h;rfl
theorem bm.rD(h:bm w M G .dW v):v= .slice none 0 0:=by cases h;rfl
theorem bm.R8(h:bm w M G (.mX true) v):v= .nilIface:=by cases h;rfl
theorem bm.aaK(h:bm w M G (.mX false) v):∃T u,v= .iface T u:=by cases h;exact⟨_,_,rfl⟩
theorem bm.Vv{T:TypeId}{x:PV}(h:bm w M G (.jw T x) v):∃u,v= .iface T u/\x.plain=true/\bm w M dX x u:=by cases h with|jw _ _ u hp h=>exact⟨u,rfl,hp,h⟩
theorem bm.plain{w':World}{M M':Nat->Prop}{G G':Gh}{y:PV}{v:Value}(hc:y.plain=true)(h:bm w M G y v):bm w' M' G' y v:=by
 induction h generalizing G' with
 |jw T x v hp _ ih=>exact .jw T x v hp (ih hp)
 |_=>first|(simp[PV.plain]at hc;done)|constructor
theorem bm.Yb(h:bm w M G .undef v):v=Go.undef:=by cases h;rfl
theorem bm.DE{cs:List PV}(h:bm w M G (.dg cs) v):∃vs:List Value,v= .tuple vs.toArray/\bg w M G cs vs:=by cases h with|dg _ vs hl h=>exact⟨vs,rfl,hl,h⟩
theorem bm.qQ{cs:List PV}(h:bm w M G (.agg cs) v):∃vs:List Value,v= .agg vs.toArray/\bg w M G cs vs:=by cases h with|agg _ vs hl h=>exact⟨vs,rfl,hl,h⟩
theorem bm.N5{f:FuncId}{cs:List PV}(h:bm w M G (.jx f cs) v):∃vs:List Value,v= .func (.func f) vs.toArray #[]/\bg w M G cs vs:=by cases h with|jx _ _ vs hl h=>exact⟨vs,rfl,hl,h⟩
theorem bm.zg{f:FuncId}{cs:List PV}(h:bm w M G (.bY f cs) v):∃vs:List Value,v= .func (.func f) #[] vs.toArray/\bg w M G cs vs:=by cases h with|bY _ _ vs hl h=>exact⟨vs,rfl,hl,h⟩
theorem bm.HX{cs:List PV}(h:bm w M G (.ref cs) v):∃(ad:Addr) (vs:List Value),v= .pointer (some ad)/\bg w M dX cs vs/\∀(i:Nat) (u:Value),vs[i]?=some u->w.cell? (ad.add i)=some u/\¬M ad.block:=by
 cases h with|ref _ ad vs hl hc h=>exact⟨ad,vs,rfl,⟨hl,h⟩,hc⟩
theorem bm.oI{id ak off:Nat}(h:bm w M G (.ptr id ak off) v)(hv:G.V id=ak):id<G.N/\v= .pointer ((cW (G.L id)).map fun b=>⟨b,off,none⟩):=by
 cases h with|ptr _ _ _ ad hN hV h=>exact⟨hN,by rw[h hv.symm]⟩
theorem bm.Kx{id ak k i off:Nat}(h:bm w M G (.eN id ak k i off) v)(hv:G.V id=ak):id<G.N/\v= .pointer ((cW (G.L id)).map fun b=>⟨b,i*k+off,none⟩):=by
 cases h with|eN _ _ _ _ _ ad hN hV h=>exact⟨hN,by rw[h hv.symm]⟩
theorem bm.yJ{id ak k lo n:Nat}(h:bm w M G (.view id ak k lo n) v)(hv:G.V id=ak):id<G.N/\∃a c,v= .slice a n c/\T3 (G.L id) k lo n a c:=by
 cases h with|view _ _ _ _ _ ad c hN hV h=>exact⟨hN,ad,c,rfl,h hv.symm⟩
theorem bm.mj{id ak:Nat}(h:bm w M G (.own id ak) v)(hv:G.V id=ak):id<G.N/\v=G.L id:=by
 cases h with|own _ _ ad n c hN hV h=>exact⟨hN,h hv.symm⟩
theorem bm.BA{es:List (List PV)}(h:bm w M G (.sl es) v):(v= .slice none 0 0/\es=[])\/∃(ad:Addr) (c k:Nat) (vs:List Value),v= .slice (some ad) es.length c/\(∀e∈es,e.length=k)/\bg w M dX es.flatten vs/\
  (∀(i:Nat) (u:Value),vs[i]?=some u->w.cell? (ad.add i)=some u/\¬M ad.block)/\es.length<=c/\c<=maxLen:=by
 cases h with
 |sl _ ad c k vs hk hl hc h hn hm=>exact .inr ⟨ad,c,k,vs,rfl,hk,⟨hl,h⟩,hc,hn,hm⟩
 |slnil=>exact .inl ⟨rfl,rfl⟩
end
def St.eO(S:St)(wr:Option (Nat×fE)):St:={S with H:=match wr with|some (id,o)=>bJ S.H id o|none=>S.H}
def Good(P:Program)(E:En)(S:St)(a:Act)(w:World)(o:Oper)(x:PV)(wr:Option (Nat×fE)):Prop:=
 ∃nx w' L' v,(execOp a.eval o).run P w= .ok nx w'/\(nx= .value v\/(nx= .skip/\v=undef))/\bm w' (br E (S.eO wr) L') ((S.eO wr).gh L') x v/\Rel E (S.eO wr) a w' L'
theorem Good.pure{o:Oper}{x:PV}{v:Value}(h:Rel E S a w L)(hr:(execOp a.eval o).run P w= .ok (.value v) w)(hx:bm w (br E S L) (S.gh L) x v):Good P E S a w o x none:=
 ⟨_,w,L,v,hr,.inl rfl,hx,h⟩
theorem Rel.Wz(h:Rel E S a w L){d:Option Nat}{x:PV}{v:Value}(hd:∀t,d=some t->E.can t)(hx:bm w (br E S L) (S.gh L) x v):Rel E (S.cY d x none) (a.put d v) w L:=by
 cases d with
 |none=>exact h
 |some t=>exact h.put (hd t rfl) hx
def Iu(o:Oper):Prop:=∀c,o.op≠ .defer c
theorem Good.wp{o:Oper}{x:PV}{wr:Option (Nat×fE)}(h:Good P E S a w o x wr)(hnd:Iu o)(hd:∀t,o.dst=some t->E.can t){K:Act->World->Prop}{Q:Exit->Act->World->Prop}
  (hK:∀a' w' L',Rel E (S.cY o.dst x wr) a' w' L'->K a' w'):o.wpIn (WF E.rd) 0 P a w K Q:=by
 obtain⟨nx,w',L',v,hr,hn,hx,h'⟩:=h;have:=hK _ _ _ (show Rel E (S.cY o.dst x wr) (a.put o.dst v) w' L' from h'.Wz hd hx)
 unfold Oper.wpIn;rw[Oper.semAt_eq _ _ _ hnd,hr];rcases hn with rfl|⟨rfl,rfl⟩<;>exact⟨fun _ _=>trivial,this⟩
theorem Ut{t:TypeId}{ad:Addr}{v:Value}(ht:s4 P t=some none)(h:w.cell? ad=some v):(loadVar t ad).run P w= .ok v w:=by
 unfold s4 at ht;split at ht
 ·simp at ht
 ·simp at ht
 ·rename_i d _ hu hd
  have:(isAgg t).run P w= .ok false w:=by
   unfold isAgg;rw[Sem.run_bind,run_underlying hd w];cases d<;>simp_all
  simp only[loadVar,Sem.run_bind,this,Result.andThen_ok];simp[load,Sem.run,h]
 ·cases ht
theorem Uu{t:TypeId}{ad:Addr}{n:Nat}{vs:List Value}(ht:s4 P t=some (some n))(hl:vs.length=n)(h:∀(i:Nat) (v:Value),vs[i]?=some v->w.cell? (ad.add i)=some v):
  (loadVar t ad).run P w= .ok (.agg vs.toArray) w:=by
 have hi:∃i,P.info? t=some i/\i.size=n:=by
  unfold s4 at ht;split at ht
  ·simpa using ht
  ·simpa using ht
  ·simp at ht
  ·cases ht
 obtain⟨i,hi,hs⟩:=hi
 have:(isAgg t).run P w= .ok true w:=by
  unfold s4 at ht;unfold isAgg;split at ht
  ·rename_i hu;rw[Sem.run_bind,run_underlying hu w];simp
  ·rename_i hu;rw[Sem.run_bind,run_underlying hu w];simp
  ·simp at ht
  ·cases ht
 have hl2:=run_loadCells_list (P:=P) w ad vs h;rw[hl]at hl2;simp only[loadVar,Sem.run_bind,this,Result.andThen_ok,sizeOf,typeInfo];simp[program,Sem.run,hi,hs,hl2]
theorem Ie{M:Nat->Prop}{G:Gh}{t:TypeId}{n:Option Nat}{ad:Addr}{cs:List PV}{vs:List Value}{x:PV}(ht:s4 P t=some n)(hr:bg w M G cs vs)
  (hc:∀(i:Nat) (v:Value),vs[i]?=some v->w.cell? (ad.add i)=some v) (hx:xb n cs=some x):∃v,(loadVar t ad).run P w= .ok v w/\bm w M G x v:=by
 cases n with
 |none=>
  cases cs with
  |nil=>simp[xb]at hx
  |cons y ys=>
   simp only[xb,Qf]at hx;subst hx;obtain⟨v,us,rfl,h1,_⟩:=hr.cons_inv;exact⟨v,Ut ht (by simpa[Addr.add]using hc 0 v (by simp)),h1⟩
 |some n=>
  simp only[xb]at hx;split at hx
  ·injection hx with hx
   subst hx;rename_i hn;refine⟨.agg (vs.take n).toArray,Uu ht (by simp[hr.1];omega) (fun i v hv=> ?_),?_⟩
   ·rw[Qq67]at hv;split at hv
    ·exact hc i v hv
    ·cases hv
   ·have:=hr.take n;exact .agg _ _ this.1 this.2
  ·cases hx
theorem Rel.o6(h:Rel E S a w L){id:Nat}{cs:List PV}(hid:id<S.N)(hc:(S.H id).c= .box cs):
  ∃(b:Nat) (cur:Array Value) (T:TypeId),L id= .pointer (some ⟨b,0,none⟩)/\w.heap[b]?=some (.cells cur T (0,0))/\bg w (br E S L) (S.gh L) cs cur.toList/\(E.rb=some b\/E.w0.heap.size<=b):=by
 have:=h.obj id hid;rw[hc]at this;obtain⟨b,cur,T,h1,h2,h3,h4⟩:=this;exact⟨b,cur,T,h1,h2,h4,h3⟩
theorem o0{b:Nat}{cur:Array Value}{T:TypeId}(h:w.heap[b]?=some (.cells cur T (0,0))){i:Nat}{v:Value}(hv:cur.toList[i]?=some v):w.cell? ⟨b,i,none⟩=some v:=by
 simp[World.cell?,h];simpa using hv
theorem Rel.jt(h:Rel E S a w L){id:Nat}{e k:Nat}{es:List (List PV)}(hid:id<S.N)(hc:(S.H id).c= .row e k es):
  ∃(vs:List Value),w.ownsRow (gI E (L id)) e k (L id) es.length vs/\(∀x∈es,x.length=k)/\bg w (br E S L) (S.gh L) es.flatten vs:=by
 have:=h.obj id hid;rw[hc]at this;exact this
theorem xV{α:Type}:∀(es:List (List α)) (k i:Nat) (e:List α),(∀x∈es,x.length=k)->es[i]?=some e->∀j,j<k->es.flatten[i*k+j]?=e[j]?
 |[],_,_,_,_,h,_,_=>by simp at h
 |x::xs,k,i,e,hk,h,j,hj=>by
  have hx:x.length=k:=hk x (by simp)
  cases i with
  |zero=>
   simp at h;subst h;simp only[List.flatten_cons,Nat.zero_mul,Nat.zero_add];rw[List.getElem?_append_left (by omega)]
  |succ i=>
   simp only[List.getElem?_cons_succ]at h;have:=xV xs k i e (fun y hy=>hk y (by simp[hy])) h j hj
   simp only[List.flatten_cons];have e1:(i+1)*k=i*k+k:=by rw[Qq72];omega
   rw[List.getElem?_append_right (by omega),<-this]
   congr 1;omega
theorem lO{α:Type}(es:List (List α))(k:Nat)(hk:∀x∈es,x.length=k):es.flatten.length=es.length*k:=by
 induction es with
 |nil=>simp
 |cons x xs ih=>
  have hx:x.length=k:=hk x (by simp)
  have:=ih (fun y hy=>hk y (by simp[hy]))
  simp only[List.flatten_cons,QB,QE,hx,this,Qq72];omega
end
end
section
open Go.RowKit
section
variable {P : Program} {E : En} {S : St} {a : Act} {w : World} {L : Nat -> Value} {o : Oper} {x : PV} {wr : Option (Nat × fE)} {Γ : mR} {nid : Nat}
theorem bV{p q:PV×Option (Nat×fE)}(h:some p=some q):p.1=q.1/\p.2=q.2:=by injection h with h;subst h;exact⟨rfl,rfl⟩
theorem ab5(h:Rel E S a w L){y:Operand}{y':bn}(ho:o.op= .move y\/o.op= .assign y)(hy:bd y=some y'):Good P E S a w o (y'.val S) none:=by
 refine Good.pure h ?_ (h.fj hy);rcases ho with ho|ho<;>simp[execOp,ho]
theorem afp(h:Rel E S a w L){c y z:Operand}{c' y' z':bn}(ho:o.op= .pick c y z)(hc:bd c=some c')(hy:bd y=some y')(hz:bd z=some z')
  (he:exec Γ nid S (.pick c' y' z')=some (x,wr)):Good P E S a w o x wr:=by
 have rc:=h.fj hc;simp only[exec]at he;split at he
 ·rename_i e;obtain⟨rfl,rfl⟩:=bV he;rw[e]at rc;have hv:=rc.ku;exact Good.pure (v:=a.eval y) h (by simp[execOp,ho,asBool,hv]) (h.fj hy)
 ·rename_i e;obtain⟨rfl,rfl⟩:=bV he;rw[e]at rc;have hv:=rc.ku;exact Good.pure (v:=a.eval z) h (by simp[execOp,ho,asBool,hv]) (h.fj hz)
 ·cases he
theorem agH(h:Rel E S a w L){y:Operand}{y':bn}{t:TypeId}(ho:o.op= .unOp .not t y)(hy:bd y=some y')(he:exec Γ nid S (.not y')=some (x,wr)):Good P E S a w o x wr:=by
 have r:=h.fj hy;simp only[exec]at he;split at he
 ·rename_i b e;obtain⟨rfl,rfl⟩:=bV he;rw[e]at r;have hv:=r.ku;exact Good.pure (v:= .bool !b) h (by simp[execOp,ho,Op.unary,hv]) (.bool _)
 ·cases he
theorem aft(h:Rel E S a w L){y:Operand}{y':bn}{s t:TypeId}{k k0:IntKind}(ho:o.op= .convert s t y)(hs:P.underlying s=some (.int k0))(ht:P.underlying t=some (.int k))(hy:bd y=some y')
  (he:exec Γ nid S (.conv k y')=some (x,wr)):Good P E S a w o x wr:=by
 have r:=h.fj hy;simp only[exec]at he;split at he
 ·rename_i k1 n e;obtain⟨rfl,rfl⟩:=bV he;rw[e]at r;have hv:=r.eV;exact Good.pure (v:= .int k (k.wrap n)) h (by simp[execOp,ho,convert,run_underlying hs,run_underlying ht,Conv.intToInt,hv]) (.int _ _)
 ·cases he
theorem afs(h:Rel E S a w L){y:Operand}{y':bn}{i:Nat}(ho:o.op= .extract y i)(hy:bd y=some y')(he:exec Γ nid S (.vy i y')=some (x,wr)):Good P E S a w o x wr:=by
 have r:=h.fj hy;simp only[exec]at he;split at he
 ·rename_i cs e;simp only[Qb]at he;obtain⟨z,hz,he⟩:=he;injection he with h1 h2
  subst h1 h2;rw[e]at r;obtain⟨vs,hv,hr⟩:=r.DE;obtain⟨u,hu,hx⟩:=hr.get hz;exact Good.pure (v:=u) h (by simp[execOp,ho,Instr.extract,hv,hu]) hx
 ·cases he
theorem agM(h:Rel E S a w L){f:FuncId}{first caps:Array Operand}{cs:List bn}(ho:o.op= .makeFunc (.func f) first caps)(h0:first.size=0)(hc:caps.toList.mapM bd=some cs)
  (he:exec Γ nid S (.Jj f cs)=some (x,wr)):Good P E S a w o x wr:=by
 simp only[exec]at he;obtain⟨rfl,rfl⟩:=bV he;have r:=h.dj hc;have h1:first=#[]:=Array.eq_empty_of_size_eq_zero h0
 subst h1;refine Good.pure (v:= .func (.func f) #[] (caps.toList.map a.eval).toArray) h ?_ (.bY f _ _ r.1 r.2);have e:caps.map a.eval=(caps.toList.map a.eval).toArray:=by rw[<-Array.toList_map,Array.toArray_toList]
 simp[execOp,ho,Instr.makeFunc,e]
theorem agN(h:Rel E S a w L){f:FuncId}{first caps:Array Operand}{cs:List bn}(ho:o.op= .makeFunc (.func f) first caps)(h0:caps.size=0)(hc:first.toList.mapM bd=some cs)
  (he:exec Γ nid S (.Jk f cs)=some (x,wr)):Good P E S a w o x wr:=by
 simp only[exec]at he;obtain⟨rfl,rfl⟩:=bV he;have r:=h.dj hc;have h1:caps=#[]:=Array.eq_empty_of_size_eq_zero h0;subst h1;refine Good.pure (v:= .func (.func f) (first.toList.map a.eval).toArray #[]) h ?_ (.jx f _ _ r.1 r.2)
 have e:first.map a.eval=(first.toList.map a.eval).toArray:=by rw[<-Array.toList_map,Array.toArray_toList]
 simp[execOp,ho,Instr.makeFunc,e]
theorem toList_eq_iff(a b:ByteArray):(a.toList==b.toList)=decide (a=b):=by
 have hl:∀c:ByteArray,c.toList=c.data.toList:=fun c=>Lib.toList_data c
 rw[hl,hl,QW];simp only[beq_iff_eq,Qi];constructor
 ·intro h;have:a.data=b.data:=Array.toList_inj.1 h;cases a;cases b;simp_all
 ·rintro rfl;rfl
theorem Wf{M:Nat->Prop}{G:Gh}{op:BinOp}{t:TypeId}{k:IntKind}{p q:Int}{r:PV}(hb:HC op k p q=some r)(hs1:op≠ .shl)(hs2:op≠ .shr):
  ∃v,(binOp op t (.int k p) (.int k q)).run P w= .ok v w/\bm w M G r v:=by
 cases op<;>simp only[HC]at hb
 case shl=>exact absurd rfl hs1
 case shr=>exact absurd rfl hs2
 case quo=>
  split at hb
  ·cases hb
  ·rename_i hq;injection hb with hb;subst hb;exact⟨.int k (k.wrap (p.tdiv q)),by simp[binOp,Op.intDiv,hq],.int _ _⟩
 case rem=>
  split at hb
  ·cases hb
  ·rename_i hq;injection hb with hb;subst hb;exact⟨.int k (p.tmod q),by simp[binOp,Op.intDiv,hq],.int _ _⟩
 case andNot=>injection hb with hb;subst hb;exact⟨.int k (k.wrap ((BitVec.ofInt k.bits p&&& ~~~ BitVec.ofInt k.bits q).toNat)),by simp only[binOp,ne_eq,not_true_eq_false,Qu,Op.intBits,Sem.run_pure],.int _ _⟩
 case and=>injection hb with hb;subst hb;exact⟨_,by simp only[binOp,ne_eq,not_true_eq_false,Qu,Op.intBits];rfl,.int _ _⟩
 case or=>injection hb with hb;subst hb;exact⟨_,by simp only[binOp,ne_eq,not_true_eq_false,Qu,Op.intBits];rfl,.int _ _⟩
 case xor=>injection hb with hb;subst hb;exact⟨_,by simp only[binOp,ne_eq,not_true_eq_false,Qu,Op.intBits];rfl,.int _ _⟩
 all_goals (injection hb with hb;subst hb)
 all_goals exact⟨_,by simp only[binOp,ne_eq,not_true_eq_false,Qu,Op.intArith,Op.intCmp];rfl,by first|exact .int _ _|exact .bool _⟩
theorem ab9(h:Rel E S a w L){y z:Operand}{y' z':bn}{op:BinOp}{t t2:TypeId}(ho:o.op= .binOp op t y z t2)(hy:bd y=some y')(hz:bd z=some z')
  (he:exec Γ nid S (.bin op y' z')=some (x,wr)):Good P E S a w o x wr:=by
 have ry:=h.fj hy;have rz:=h.fj hz;simp only[exec,Qb]at he;obtain⟨r,hb,he⟩:=he;injection he with h1 h2
 subst h1 h2;unfold Io at hb;split at hb
 ·rename_i k p k' q e1 e2;rw[e1]at ry;rw[e2]at rz;have hv:=ry.eV;have hu:=rz.eV;have hg:∀op,(eqGuard op t y z (.int k p) (.int k' q)).run P w= .ok () w:=by intro op;cases op<;>simp[eqGuard]
  split at hb
  ·split at hb
   ·cases hb
   ·rename_i hq;injection hb with hb
    subst hb;exact Good.pure (v:=_) h (by simp[execOp,ho,hv,hu,hg,binOp,Op.shift,hq]) (.int _ _)
  ·split at hb
   ·cases hb
   ·rename_i hq;injection hb with hb
    subst hb;exact Good.pure (v:=_) h (by simp[execOp,ho,hv,hu,hg,binOp,Op.shift,hq]) (.int _ _)
  ·rename_i hs1 hs2;split at hb
   ·rename_i hk;subst hk;obtain⟨v,hrun,hx⟩:=Wf (P:=P) (w:=w) (t:=t) (M:=br E S L) (G:=S.gh L) hb hs1 hs2;exact Good.pure (v:=v) h (by simp[execOp,ho,hv,hu,hg,hrun]) hx
   ·cases hb
 ·rename_i p q e1 e2;rw[e1]at ry;rw[e2]at rz;have hv:=ry.nq;have hu:=rz.nq;have hg:∀op,(eqGuard op t y z (.string p) (.string q)).run P w= .ok () w:=by intro op;cases op<;>simp[eqGuard]
  cases op<;>simp only[MU]at hb<;>
   first
   |(injection hb with hb;subst hb;exact Good.pure (v:=_) h (by first|(simp only[execOp,ho,hv,hu,Sem.run_bind,hg,binOp,Op.stringOp,toList_eq_iff,Sem.run_pure,Result.andThen_ok];done)|(simp only[execOp,ho,hv,hu,Sem.run_bind,hg,binOp,Op.stringOp,toList_eq_iff,Sem.run_pure,Result.andThen_ok];rfl)) (.bool _))
   |cases hb
 ·cases hb
end
end
section
open Go.RowKit
section
variable {P : Program} {E : En} {S : St} {a : Act} {w : World} {L : Nat -> Value} {o : Oper} {x : PV} {wr : Option (Nat × fE)} {Γ : mR} {nid : Nat}
theorem run_load{t:TypeId}{y:Operand}{ad:Addr}{v:Value}(ho:o.op= .load t y)(hv:a.eval y= .pointer (some ad))(hr:(loadVar t ad).run P w= .ok v w):(execOp a.eval o).run P w= .ok (.value v) w:=by
 simp[execOp,ho,hv,Instr.loadAt,Instr.sureAddr,hr]
theorem add_mid(b o j:Nat):(⟨b,o,none⟩:Addr).add j=⟨b,o+j,none⟩:=Addr.add_mid b o j
theorem gk{α:Type}{l:List α}{n i:Nat}{v:α}(h:(l.drop n)[i]?=some v):l[n+i]?=some v:=by rwa [List.getElem?_drop]at h
theorem afq(h:Rel E S a w L){y:Operand}{y':bn}{t:TypeId}{n:Option Nat}(ho:o.op= .load t y)(ht:s4 P t=some n)(hy:bd y=some y')(he:exec Γ nid S (.load n y')=some (x,wr)):Good P E S a w o x wr:=by
 have r:=h.fj hy;simp only[exec]at he;split at he
 ·rename_i id ak off e;rw[e]at r;split at he
  ·rename_i hver;split at he
   ·rename_i cs hc;simp only[Qb]at he;obtain⟨z,hz,he⟩:=he;injection he with h1 h2
    subst h1 h2;obtain⟨hN,hv⟩:=r.oI (show(S.gh L).V id=ak from hver)
    obtain⟨b,cur,T,hL,hh,hr,_⟩:=h.o6 hN hc;rw[show(S.gh L).L id=L id from rfl,hL]at hv
    simp only[cW,Qe]at hv;obtain⟨v,hrun,hx⟩:=Ie (P:=P) (ad:=⟨b,off,none⟩) ht (hr.drop off) (fun i u hu=>by rw[add_mid];exact o0 hh (gk hu)) hz
    exact Good.pure h (run_load ho hv hrun) hx
   ·cases he
  ·cases he
 ·rename_i id ak k i off e;rw[e]at r;split at he
  ·rename_i hver;split at he
   ·rename_i e0 k' es hc;split at he
    ·rename_i hk;subst hk;split at he
     ·rename_i el hel;simp only[Qb]at he;obtain⟨z,hz,he⟩:=he;injection he with h1 h2
      subst h1 h2;obtain⟨hN,hv⟩:=r.Kx (show(S.gh L).V id=ak from hver)
      obtain⟨vs,hown,hk,hr⟩:=h.jt hN hc;rw[show(S.gh L).L id=L id from rfl]at hv
      have hlen:el.length=k:=hk el (Q7 hel)
      have hsub:bg w (br E S L) (S.gh L) el ((vs.drop (i*k)).take k):=by
       have h1:=(hr.drop (i*k)).take k
       have h2:(es.flatten.drop (i*k)).take k=el:=by
        apply List.ext_getElem?;intro j;rw[Qq67];split
        ·rename_i hj;rw[List.getElem?_drop,xV es k i el hk hel j hj]
        ·rw[Qq71 (by omega)]
       rw[h2]at h1;exact h1
      rcases hown.2 with⟨hL,h0⟩|⟨g,cap,cur,hL,hb1,hh,_,_,_,htake⟩
      ·have:es=[]:=Qq66 h0;subst this;simp at hel
      ·rw[hL]at hv;simp only[cW,Qe]at hv
       obtain⟨v,hrun,hx⟩:=Ie (P:=P) (ad:=⟨g,i*k+off,none⟩) ht (hsub.drop off) (fun j u hu=>by
        rw[add_mid];refine o0 hh ?_;have h1:=gk hu;rw[Qq67]at h1;split at h1
        ·rw[List.getElem?_drop,<-htake,Qq67]at h1;split at h1
         ·rw[<-h1];congr 1;omega
         ·cases h1
        ·cases h1) hz
       exact Good.pure h (run_load ho hv hrun) hx
     ·cases he
    ·cases he
   ·cases he
  ·cases he
 ·rename_i cs e;rw[e]at r;simp only[Qb]at he;obtain⟨z,hz,he⟩:=he;injection he with h1 h2
  subst h1 h2;obtain⟨ad,vs,hv,hr,hc⟩:=r.HX;obtain⟨v,hrun,hx⟩:=Ie (P:=P) (ad:=ad) ht hr (fun i u hu=>(hc i u hu).1) hz
  exact Good.pure h (run_load ho hv hrun) (hx.mono (dZ.of fun _ hm=>hm) (dX.le _))
 ·cases he
theorem add_add(ad:Addr)(i j:Nat):(ad.add i).add j=ad.add (i+j):=by
 unfold Addr.add
 by_cases hi:i=0<;>by_cases hj:j=0<;>simp[hi,hj,Nat.add_assoc]
theorem RA{M:Nat->Prop}{G:Gh}{cs:List PV}{ad:Addr}{vs:List Value}(hr:bg w M dX cs vs)(hc:∀(i:Nat) (u:Value),vs[i]?=some u->w.cell? (ad.add i)=some u/\¬M ad.block)(n:Nat):
  bm w M G (.ref (cs.drop n)) (.pointer (some (ad.add n))):=by
 have h1:=hr.drop n;exact .ref _ _ _ h1.1 (fun i u hu=>by rw[add_add,HA];exact hc _ u (gk hu)) h1.2
theorem Nh{fd:Field}{i:TypeInfo}(hi:P.info? fd.type=some i)(h0:i.size≠0)(ad:Addr):(fieldPlace ad fd).run P w= .ok (ad.add fd.offset) w:=by
 simp[fieldPlace,sizeOf,typeInfo,hi,h0]
theorem Gp{s:TypeId}{y:Operand}{f:Nat}{fields:Array Field}{fd:Field}{i:TypeInfo}{ad:Addr}(ho:o.op= .fieldAddr s y f)(hs:P.underlying s=some (.struct fields))(hf:fields[f]?=some fd)
  (hi:P.info? fd.type=some i) (h0:i.size≠0) (hv:a.eval y= .pointer (some ad)):(execOp a.eval o).run P w= .ok (.value (.pointer (some (ad.add fd.offset)))) w:=by
 simp[execOp,ho,Instr.fieldAt,run_underlying hs,hf,hv,Instr.sureAddr,Nh hi h0]
theorem bm.Oz{M:Nat->Prop}{G:Gh}{id ak off:Nat}{ad:Addr}(n:Nat)(h:bm w M G (.ptr id ak off) (.pointer (some ad))):bm w M G (.ptr id ak (off+n)) (.pointer (some (ad.add n))):=by
 cases h with
 |ptr _ _ _ _ hN hV h=>
  refine .ptr _ _ _ _ hN hV (fun e=> ?_)
  have:=h e
  cases hb:cW (G.L id)with
  |none=>rw[hb]at this;cases this
  |some b=>
   rw[hb]at this;simp only[Qe,Qf]at this ⊢;rw[this,add_mid]
theorem bm.Xl{M:Nat->Prop}{G:Gh}{id ak k i off:Nat}{ad:Addr}(n:Nat)(h:bm w M G (.eN id ak k i off) (.pointer (some ad))):bm w M G (.eN id ak k i (off+n)) (.pointer (some (ad.add n))):=by
 cases h with
 |eN _ _ _ _ _ _ hN hV h=>
  refine .eN _ _ _ _ _ _ hN hV (fun e=> ?_)
  have:=h e
  cases hb:cW (G.L id)with
  |none=>rw[hb]at this;cases this
  |some b=>
   rw[hb]at this;simp only[Qe,Qf]at this ⊢;rw[this,add_mid,Nat.add_assoc]
theorem Rel.pH(h:Rel E S a w L){id ak off:Nat}{v:Value}{cs:List PV}(r:bm w (br E S L) (S.gh L) (.ptr id ak off) v)(hver:(S.H id).ak=ak)(hc:(S.H id).c= .box cs):
  ∃b,v= .pointer (some ⟨b,off,none⟩)/\L id= .pointer (some ⟨b,0,none⟩):=by
 obtain⟨hN,hv⟩:=r.oI (show(S.gh L).V id=ak from hver)
 obtain⟨b,cur,T,hL,hh,hr,_⟩:=h.o6 hN hc;rw[show(S.gh L).L id=L id from rfl,hL]at hv
 exact⟨b,hv,hL⟩
theorem Rel.Zq(h:Rel E S a w L){id ak k i off:Nat}{v:Value}{e0 k':Nat}{es:List (List PV)}(r:bm w (br E S L) (S.gh L) (.eN id ak k i off) v)(hver:(S.H id).ak=ak)(hc:(S.H id).c= .row e0 k' es)(hi:i<es.length):
  ∃b n cap,v= .pointer (some ⟨b,i*k+off,none⟩)/\L id= .slice (some ⟨b,0,none⟩) n cap:=by
 obtain⟨hN,hv⟩:=r.Kx (show(S.gh L).V id=ak from hver)
 obtain⟨vs,hown,hk,hr⟩:=h.jt hN hc;rcases hown.2 with⟨hL,h0⟩|⟨g,cap,cur,hL,hb1,hh,_⟩
 ·omega
 ·rw[show(S.gh L).L id=L id from rfl,hL]at hv
  exact⟨g,_,cap,hv,hL⟩
theorem adM(h:Rel E S a w L){s:TypeId}{y:Operand}{y':bn}{f:Nat}{fields:Array Field}{fd:Field}{i:TypeInfo}(ho:o.op= .fieldAddr s y f)(hs:P.underlying s=some (.struct fields))(hf:fields[f]?=some fd)
  (hi:P.info? fd.type=some i) (h0:i.size≠0) (hy:bd y=some y') (he:exec Γ nid S (.zN fd.offset y')=some (x,wr)):Good P E S a w o x wr:=by
 have r:=h.fj hy;simp only[exec]at he;split at he
 ·rename_i id ak off e;rw[e]at r;split at he
  ·rename_i hver;split at he
   ·rename_i cs hc;obtain⟨rfl,rfl⟩:=bV he;obtain⟨b,hv,_⟩:=h.pH r hver hc;rw[hv]at r;exact Good.pure h (Gp ho hs hf hi h0 hv) (r.Oz _)
   ·cases he
  ·cases he
 ·rename_i id ak k j off e;rw[e]at r;split at he
  ·rename_i hver;split at he
   ·rename_i hc;split at he
    ·rename_i hj;obtain⟨rfl,rfl⟩:=bV he;obtain⟨b,n,cap,hv,_⟩:=h.Zq r hver hc hj;rw[hv]at r;exact Good.pure h (Gp ho hs hf hi h0 hv) (r.Xl _)
    ·cases he
   ·cases he
  ·cases he
 ·rename_i cs e;rw[e]at r;obtain⟨rfl,rfl⟩:=bV he;obtain⟨ad,vs,hv,hr,hc⟩:=r.HX;exact Good.pure h (Gp ho hs hf hi h0 hv) (RA hr hc _)
 ·cases he
theorem adK(h:Rel E S a w L){y:Operand}{y':bn}(ho:o.op= .nilCheck y)(hy:bd y=some y')(he:exec Γ nid S (.zG y')=some (x,wr)):Good P E S a w o x wr:=by
 have r:=h.fj hy;simp only[exec]at he;split at he
 ·rename_i id ak off e;rw[e]at r;split at he
  ·rename_i hver;split at he
   ·rename_i cs hc;obtain⟨rfl,rfl⟩:=bV he;obtain⟨b,hv,_⟩:=h.pH r hver hc;exact Good.pure (v:=a.eval y) h (by simp[execOp,ho,hv]) r
   ·cases he
  ·cases he
 ·rename_i cs e;rw[e]at r;obtain⟨rfl,rfl⟩:=bV he;obtain⟨ad,vs,hv,hr,hc⟩:=r.HX;exact Good.pure (v:=a.eval y) h (by simp[execOp,ho,hv]) r
 ·rename_i f cs e;rw[e]at r;obtain⟨rfl,rfl⟩:=bV he;obtain⟨vs,hv,hr⟩:=r.zg;exact Good.pure (v:=a.eval y) h (by simp[execOp,ho,hv]) r
 ·cases he
theorem Rel.HO(h:Rel E S a w L){id k lo n:Nat}{ad:Option Addr}{c:Nat}{e0 k':Nat}{es:List (List PV)}(hN:id<S.N)(hc:(S.H id).c= .row e0 k' es)(hat:T3 (L id) k lo n ad c):lo+n<=es.length:=by
 obtain⟨a0,m0,c0,hl,h1,_⟩:=hat;obtain⟨vs,hown,hk,hr⟩:=h.jt hN hc;rcases hown.2 with⟨hL,h0⟩|⟨g,cap,cur,hL,_⟩
 ·rw[hL]at hl;injection hl with e1 e2 e3;omega
 ·rw[hL]at hl;injection hl with e1 e2 e3;omega
theorem Gn{t e:TypeId}{y z:Operand}{ad:Addr}{n c:Nat}{i:TypeInfo}{k:IntKind}{j:Int}(ho:o.op= .indexAddr t y z)(ht:P.underlying t=some (.slice e))(hi:P.info? e=some i)
  (hv:a.eval y= .slice (some ad) n c) (hz:a.eval z= .int k j) (h0:0<=j) (h1:j<n):(execOp a.eval o).run P w= .ok (.value (.pointer (some (ad.add (j.toNat*i.size))))) w:=by
 simp[execOp,ho,Instr.indexAt,run_underlying ht,hv,hz,asIntOf,sizeOf,typeInfo,hi,h0,h1]
theorem adL(h:Rel E S a w L){t e:TypeId}{y z:Operand}{y' z':bn}{i:TypeInfo}(ho:o.op= .indexAddr t y z)(ht:P.underlying t=some (.slice e))(hi:P.info? e=some i)(hy:bd y=some y')(hz:bd z=some z')
  (he:exec Γ nid S (.zK i.size y' z')=some (x,wr)):Good P E S a w o x wr:=by
 have r:=h.fj hy;have rz:=h.fj hz;simp only[exec]at he;split at he
 ·rename_i kk j ej;rw[ej]at rz;have hj:=rz.eV;split at he
  ·rename_i es ee;rw[ee]at r;split at he
   ·rename_i hb;split at he
    ·rename_i el hel;split at he
     ·rename_i hlen;obtain⟨rfl,rfl⟩:=bV he;rcases r.BA with⟨_,h0⟩|⟨ad,c,k,vs,hv,hk,hr,hc,_,_⟩
      ·subst h0;simp at hel
      ·have hk':k=i.size:=(hk el (Q7 hel)).symm.trans hlen;subst hk';refine Good.pure h (Gn ho ht hi hv hj hb.1 hb.2) ?_
       have h2:(es.flatten.drop (j.toNat*i.size)).take i.size=el:=by
        apply List.ext_getElem?;intro q;rw[Qq67];split
        ·rename_i hq;rw[List.getElem?_drop,xV es i.size j.toNat el hk hel q hq]
        ·rw[Qq71 (by omega)]
       have h1:=(hr.drop (j.toNat*i.size)).take i.size;rw[h2]at h1;refine .ref _ _ _ h1.1 (fun q u hu=> ?_) h1.2
       rw[Qq67]at hu;split at hu
       ·rw[add_add,HA];exact hc _ u (gk hu)
       ·cases hu
     ·cases he
    ·cases he
   ·cases he
  ·rename_i id ak ee;rw[ee]at r;split at he
   ·rename_i hver;split at he
    ·rename_i e0 k' es hc;split at he
     ·rename_i hb;obtain⟨rfl,rfl⟩:=bV he;obtain⟨hN,hv⟩:=r.mj (show(S.gh L).V id=ak from hver)
      obtain⟨vs,hown,hk,hr⟩:=h.jt hN hc;rcases hown.2 with⟨hL,h0⟩|⟨g,cap,cur,hL,hb1,hh,_⟩
      ·omega
      ·rw[show(S.gh L).L id=L id from rfl,hL]at hv
       refine Good.pure h (Gn ho ht hi hv hj hb.2.1 hb.2.2) ?_;refine .eN _ _ _ _ _ _ hN (Nat.le_of_eq hver.symm) (fun _=> ?_)
       rw[show(S.gh L).L id=L id from rfl,hL]
       simp[cW,add_mid]
     ·cases he
    ·cases he
   ·cases he
  ·rename_i id ak k0 lo m ee;rw[ee]at r;split at he
   ·rename_i hver;split at he
    ·rename_i e0 k' es hc;split at he
     ·rename_i hb;obtain⟨hk1,hk0,hb0,hb1,hb2⟩:=hb;subst hk0;obtain⟨rfl,rfl⟩:=bV he;obtain⟨hN,ad,c,hv,a0,m0,c0,hl,h1,h2,h3,h4⟩:=r.yJ (show(S.gh L).V id=ak from hver)
      obtain⟨vs,hown,hk,hr⟩:=h.jt hN hc;have hl:L id= .slice a0 m0 c0:=hl;rcases hown.2 with⟨hL,h0⟩|⟨g,cap,cur,hL,hb1',hh,_⟩
      ·omega
      ·rw[hL]at hl;injection hl with e1 e2 e3
       subst e1 e2 e3;rcases h4 with h4|h4
       ·omega
       ·subst h4;refine Good.pure h (Gn ho ht hi hv hj hb0 hb1) ?_;refine .eN _ _ _ _ _ _ hN (Nat.le_of_eq hver.symm) (fun _=> ?_)
        rw[show(S.gh L).L id=L id from rfl,hL]
        simp[cW,add_mid,Qq72]
     ·cases he
    ·cases he
   ·cases he
  ·cases he
 ·cases he
theorem Oo{t e:TypeId}{y z:Operand}{ad:Addr}{n:Nat}{i:TypeInfo}{k:IntKind}{j:Int}(ho:o.op= .indexAddr t y z)(ht:P.underlying t=some (.array n e))(hi:P.info? e=some i)
  (hv:a.eval y= .pointer (some ad)) (hz:a.eval z= .int k j) (h0:0<=j) (h1:j<n):(execOp a.eval o).run P w= .ok (.value (.pointer (some (ad.add (j.toNat*i.size))))) w:=by
 simp[execOp,ho,Instr.indexAt,Instr.sureAddr,run_underlying ht,hv,hz,asIntOf,sizeOf,typeInfo,hi,h0,h1]
theorem adO(h:Rel E S a w L){t e:TypeId}{n:Nat}{y z:Operand}{y' z':bn}{i:TypeInfo}(ho:o.op= .indexAddr t y z)(ht:P.underlying t=some (.array n e))(hi:P.info? e=some i)(hy:bd y=some y')(hz:bd z=some z')
  (he:exec Γ nid S (.zQ i.size n y' z')=some (x,wr)):Good P E S a w o x wr:=by
 have r:=h.fj hy;have rz:=h.fj hz;simp only[exec]at he;split at he
 ·rename_i kk j ej;rw[ej]at rz;have hj:=rz.eV;split at he
  ·rename_i hb;split at he
   ·rename_i id ak off e;rw[e]at r;split at he
    ·rename_i hver;split at he
     ·rename_i cs hc;obtain⟨rfl,rfl⟩:=bV he;obtain⟨b,hv,_⟩:=h.pH r hver hc;rw[hv]at r;exact Good.pure h (Oo ho ht hi hv hj hb.1 hb.2) (r.Oz _)
     ·cases he
    ·cases he
   ·rename_i cs e;rw[e]at r;obtain⟨rfl,rfl⟩:=bV he;obtain⟨ad,vs,hv,hr,hc⟩:=r.HX;exact Good.pure h (Oo ho ht hi hv hj hb.1 hb.2) (RA hr hc _)
   ·cases he
  ·cases he
 ·cases he
theorem afn(h:Rel E S a w L){t:TypeId}{y z:Operand}{y' z':bn}(ho:o.op= .index t y z)(ht:P.underlying t=some .string)(hy:bd y=some y')(hz:bd z=some z')
  (he:exec Γ nid S (.xp y' z')=some (x,wr)):Good P E S a w o x wr:=by
 have ry:=h.fj hy;have rz:=h.fj hz;simp only[exec]at he;split at he
 ·rename_i s kk n e1 e2;rw[e1]at ry;rw[e2]at rz;have hv:=ry.nq;have hj:=rz.eV;simp only[Qb]at he;obtain⟨b,hb,he⟩:=he;injection he with h1 h2
  subst h1 h2;unfold xp at hb;split at hb
  ·rename_i h0;simp only[Qb]at hb;obtain⟨c,hc,rfl⟩:=hb;exact Good.pure h (by simp[execOp,ho,Instr.index,run_underlying ht,hv,hj,asIntOf,h0,hc]) (.int _ _)
  ·cases hb
 ·cases he
theorem w8{q:PQ}{xs:List bn}(he:exec Γ nid S (.ow q xs)=some (x,wr)):na q (xs.map (·.val S))=some x/\wr=none:=by
 simp only[exec,Qb]at he;obtain⟨v,hv,he⟩:=he;injection he with h1 h2
 subst h1 h2;exact⟨hv,rfl⟩
theorem afo(h:Rel E S a w L){t t2:TypeId}{y z:Operand}{y' z':bn}(ho:o.op= .binOp .add t y z t2)(hy:bd y=some y')(hz:bd z=some z')(he:exec Γ nid S (.ow .Gf [y',z'])=some (x,wr)):Good P E S a w o x wr:=by
 have ry:=h.fj hy;have rz:=h.fj hz;obtain⟨hv,rfl⟩:=w8 he;simp only[QD,QO]at hv;generalize y'.val S=p at ry hv;generalize z'.val S=q at rz hv;unfold na at hv;split at hv<;>simp only[reduceCtorEq,List.cons.injEq,and_true,and_false]at*<;>try contradiction
 rename_i s1 s2 _ e1;obtain⟨rfl,rfl⟩:=e1;simp only[Qb,Gf]at hv;obtain⟨r,hr,rfl⟩:=hv;split at hr
 ·rename_i hs;injection hr with hr
  subst hr;refine Good.pure h (v:= .string (s1++s2)) ?_ (.str _);have hi:IntKind.i64.max=9223372036854775807:=rfl;simp[execOp,ho,eqGuard,binOp,ry.nq,rz.nq,Op.stringOp,hi];omega
 ·cases hr
theorem Zp(h:Rel E S a w L){neg:Bool}{t t2:TypeId}{ms:Array (String×TypeId)}{y:Operand}{y':bn}(ho:o.op= .binOp (if neg then .neq else .eql) t y (.const .nilIface) t2)(ht:P.underlying t=some (.interface ms))(hy:bd y=some y')
  (he:exec Γ nid S (.ow (.Ha neg) [y'])=some (x,wr)):Good P E S a w o x wr:=by
 have ry:=h.fj hy;obtain⟨hv,rfl⟩:=w8 he;simp only[QD,QO]at hv;generalize y'.val S=p at ry hv;have hc:a.eval (.const .nilIface)= .nilIface:=rfl
 have key0:a.eval y= .nilIface->(execOp a.eval o).run P w= .ok (.value (.bool !neg)) w:=by
  intro h1
  have hq:(Op.equal t .nilIface .nilIface).run P w= .ok true w:=by
   show(Op.equalIn (9999+1) t _ _).run P w=_;rw[Op.equalIn];simp[run_underlying ht]
  cases neg<;>simp only[Qq,Qu,Qt]at ho<;>simp[execOp,ho,h1,hc,eqGuard,binOp,hq]
 have key1:∀(T:TypeId) (u:Value),a.eval y= .iface T u->(execOp a.eval o).run P w= .ok (.value (.bool neg)) w:=by
  intro T u h1
  have hq:(Op.equal t (.iface T u) .nilIface).run P w= .ok false w:=by
   show(Op.equalIn (9999+1) t _ _).run P w=_;rw[Op.equalIn];simp[run_underlying ht]
  cases neg<;>simp only[Qq,Qu,Qt]at ho<;>simp[execOp,ho,h1,hc,eqGuard,binOp,hq]
 unfold na at hv;split at hv<;>simp only[reduceCtorEq,PQ.Ha.injEq,List.cons.injEq,and_true,and_false]at*<;>try contradiction
 ·rename_i T u e0 e1;subst e0 e1;injection hv with hv
  subst hv;obtain⟨u',hu⟩:=ry.Vv;exact Good.pure h (key1 _ _ hu.1) (.bool _)
 ·rename_i b e0 e1;subst e0 e1;injection hv with hv
  subst hv
  cases b with
  |true=>
   rw[Bool.xor_true];exact Good.pure h (key0 ry.R8) (.bool _)
  |false=>
   obtain⟨T,u,hu⟩:=ry.aaK;rw[Bool.xor_false];exact Good.pure h (key1 _ _ hu) (.bool _)
theorem agI(h:Rel E S a w L){t:TypeId}{y:Operand}{y':bn}(ho:o.op= .unOp .neg t y)(hy:bd y=some y')(he:exec Γ nid S (.ow .neg [y'])=some (x,wr)):Good P E S a w o x wr:=by
 have ry:=h.fj hy;obtain⟨hv,rfl⟩:=w8 he;simp only[QD,QO]at hv;generalize y'.val S=p at ry hv
 cases p with
 |int k n=>
  change some (PV.int k (k.wrap (0 - n)))=some x at hv
  injection hv with hv
  subst hv;exact Good.pure h (v:= .int k (k.wrap (0 - n))) (by simp[execOp,ho,ry.eV,Op.unary,Op.intArith]) (.int _ _)
 |_=>cases hv
theorem agK(h:Rel E S a w L){t:TypeId}(ho:o.op= .makeMap t none)(he:exec Γ nid S (.ow .mkm [])=some (x,wr)):Good P E S a w o x wr:=by
 obtain⟨hv,rfl⟩:=w8 he
 change some PV.any=some x at hv
 injection hv with hv
 subst hv;exact⟨_,w.alloc (.map #[] 0),L,.map (some w.heap.size),by simp[execOp,ho,Instr.makeMap],.inl rfl,.any _,(h.grow (w':=w.alloc (.map #[] 0)) rfl rfl rfl (by simp) (fun b hb=>Below.heap_alloc _ _ _ hb)).1⟩
theorem agL(h:Rel E S a w L){t:TypeId}{y:Operand}{y':bn}(ho:o.op= .makeInterface t y)(ht:P.concrete t=true)(hy:bd y=some y')(he:exec Γ nid S (.ow (.Y1 t) [y'])=some (x,wr)):Good P E S a w o x wr:=by
 have ry:=h.fj hy;obtain⟨hv,rfl⟩:=w8 he;simp only[QD,QO]at hv;generalize y'.val S=p at ry hv
 change (if(p.plain&&p.one)=true then some (PV.jw t p)else none)=some x at hv
 split at hv
 ·rename_i hp;rw[Qm]at hp;injection hv with hv
  subst hv;exact Good.pure h (by simp[execOp,ho,run_makeInterface,ht]) (.jw _ _ _ hp.1 (ry.plain hp.1))
 ·cases hv
theorem agF(h:Rel E S a w L){t t0:TypeId}{u:TypeDesc}{i:TypeInfo}{zv:Value}{zp:PV}{y:Operand}{y':bn}(ho:o.op= .typeAssert y t0 t true)(hu:P.underlying t=some u)(hni:∀ms,u≠ .interface ms)(hi:P.info? t=some i)(hz:i.zero=some zv)(hzp:xg zv=some zp)
  (hy:bd y=some y') (he:exec Γ nid S (.ow (.UU t zp) [y'])=some (x,wr)):Good P E S a w o x wr:=by
 have ry:=h.fj hy;obtain⟨hv,rfl⟩:=w8 he;simp only[QD,QO]at hv;generalize y'.val S=p at ry hv
 have two:∀{M:Nat->Prop} {G:Gh} {p q:PV} {v1 v2:Value},bm w M G p v1->bm w M G q v2->bm w M G (.dg [p,q]) (.tuple #[v1,v2]):=fun h1 h2=>by
  have:=bg.cons h1 (bg.cons h2 bg.nil);exact .dg _ _ this.1 this.2
 unfold na at hv;split at hv<;>simp only[reduceCtorEq,PQ.UU.injEq,List.cons.injEq,and_true,and_false]at*<;>try contradiction
 ·rename_i T z T' p0 e0 e1;obtain⟨rfl,rfl⟩:=e0;subst e1;obtain⟨v,hv1,hp,hv2⟩:=ry.Vv;injection hv with hv
  subst hv
  by_cases hT:T'=t
  ·rw[Qr hT];refine Good.pure h (v:= .tuple #[v,.bool true]) ?_ (two (hv2.plain hp) (.bool _));cases u<;>first|exact absurd rfl (hni _)|simp[execOp,ho,hv1,Instr.typeAssert,run_underlying hu,hT]
  ·rw[Qs hT];refine Good.pure h (v:= .tuple #[zv,.bool false]) ?_ (two (zP hzp) (.bool _));cases u<;>first|exact absurd rfl (hni _)|simp[execOp,ho,hv1,Instr.typeAssert,run_underlying hu,hT,zeroValue,typeInfo,hi,hz]
 ·rename_i T z e0 e1;obtain⟨rfl,rfl⟩:=e0;subst e1;injection hv with hv
  subst hv;refine Good.pure h (v:= .tuple #[zv,.bool false]) ?_ (two (zP hzp) (.bool _));cases u<;>first|exact absurd rfl (hni _)|simp[execOp,ho,ry.R8,Instr.typeAssert,run_underlying hu,zeroValue,typeInfo,hi,hz]
theorem Hy:∀{es:List (List PV)} {l:List UInt8},bytesOf es=some l->es=l.map fun b=>[.int .u8 (b.toNat:Int)]
 |[],l,h=>by injection h with h;subst h;rfl
 |e::es,l,h=>by
  unfold bytesOf at h;split at h
  ·rename_i e0;cases e0
  ·rename_i n l0 e0;injection e0 with e1 e2
   subst e1 e2;split at h
   ·rename_i b bs hb hbs;injection h with h
    subst h;rw[QD,<-Hy hbs];unfold byteOf at hb;split at hb
    ·rename_i hn;injection hb with hb
     subst hb
     have:(((UInt8.ofNat n.toNat).toNat:Nat):Int)=n:=by
      rw[UInt8.toNat_ofNat',Nat.mod_eq_of_lt (by omega)]
      omega
     rw[this]
    ·cases hb
   ·cases h
  ·cases h
theorem agS(h:Rel E S a w L){src dst e:TypeId}{y:Operand}{y':bn}(ho:o.op= .convert src dst y)(hs:P.underlying src=some (.slice e))(hb:P.underlying e=some (.int .u8))(hd:P.underlying dst=some .string)(hy:bd y=some y')
  (he:exec Γ nid S (.ow .b2s [y'])=some (x,wr)):Good P E S a w o x wr:=by
 have ry:=h.fj hy;obtain⟨hv,rfl⟩:=w8 he;simp only[QD,QO]at hv;generalize y'.val S=p at ry hv;unfold na at hv;split at hv<;>simp only[reduceCtorEq,List.cons.injEq,and_true,and_false]at*<;>try contradiction
 rename_i es _ e1;subst e1;simp only[Qb]at hv;obtain⟨l,hl,rfl⟩:=hv;have hes:=Hy hl
 have hfl:es.flatten=l.map fun b=> .int .u8 (b.toNat:Int):=by
  rw[hes];clear hl hes ry he
  induction l with
  |nil=>rfl
  |cons b l ih=>rw[QD,List.flatten_cons,ih];rfl
 rcases ry.BA with⟨hv,h0⟩|⟨ad,c,k,vs,hv,hk,hr,hc,_⟩
 ·have h1:l=[]:=by rw[hes]at h0;simpa using h0
  subst h1;refine Good.pure h (v:= .string ⟨#[]⟩) ?_ (.str _);simp only[execOp,ho,hv,Sem.run_bind];rw[run_convert_bytes_string w src dst e none 0 0 hs hb hd];simp[Conv.bytesToString];rfl
 ·refine Good.pure h (v:= .string ⟨l.toArray⟩) ?_ (.str _);have hle:es.length=l.length:=by rw[hes,QC]
  simp only[execOp,ho,hv,Sem.run_bind,hle];rw[run_convert_bytes_back w src dst e ad c l hs hb hd fun j hj=> ?_]
  ·rfl
  ·have hjv:j<vs.length:=by rw[hr.1,hfl,QC];exact hj
   have h1:=(hc j vs[j] (Qv hjv)).1;have h2:=hr.2 j (.int .u8 (l[j].toNat:Int)) vs[j] (by rw[hfl,QT,Qv hj];rfl) (Qv hjv)
   rw[h1,h2.eV]
theorem Te(h:Rel E S a w L){t:TypeId}{y:Operand}{y':bn}{lo hi:Option Operand}{zs:List bn}(ho:o.op= .slice t y lo hi none)(ht:P.underlying t=some .string)(hy:bd y=some y')
  (hz:(∃l l',lo=some l/\hi=none/\bd l=some l'/\zs=[l'])\/(∃l l',lo=none/\hi=some l/\bd l=some l'/\zs=[l'])\/(∃l l' m m',lo=some l/\hi=some m/\bd l=some l'/\bd m=some m'/\zs=[l',m']))
  (he:exec Γ nid S (.ow (.mV lo.isSome hi.isSome) (y'::zs))=some (x,wr)):Good P E S a w o x wr:=by
 have ry:=h.fj hy;obtain⟨hv,rfl⟩:=w8 he
 have hx:∀s:ByteArray,a.eval y= .string s->(execOp a.eval o).run P w=((Instr.slice t (.string s) (lo.map a.eval) (hi.map a.eval) none).run P w).andThen fun v w'=> .ok (.value v) w':=by
  intro s hs;simp only[execOp,ho,hs,Sem.run_bind,Qq64,run_sliceAt_string (P:=P) w t _ _ _ none ht];rfl
 rcases hz with⟨l,l',rfl,rfl,hl,rfl⟩|⟨l,l',rfl,rfl,hl,rfl⟩|⟨l,l',m,m',rfl,rfl,hl,hm,rfl⟩
 ·have rl:=h.fj hl;simp only[QD,QO,Option.isSome_some,Option.isSome_none]at hv;generalize y'.val S=p at ry hv;generalize l'.val S=q at rl hv;unfold na at hv;split at hv<;>simp only[reduceCtorEq,PQ.mV.injEq,List.cons.injEq,and_true,and_false]at*<;>try contradiction
  rename_i s k n _ e1;obtain⟨rfl,rfl⟩:=e1;simp only[Qb,mV]at hv;obtain⟨r,hr,rfl⟩:=hv;split at hr
  ·rename_i hb;injection hr with hr
   subst hr;refine Good.pure h (v:= .string (s.extract n.toNat s.size)) ?_ (.str _);rw[hx s ry.nq,Qe,Qq64,rl.eV,run_slice_string_from_if w t s k n ht,Qr ⟨hb.1,hb.2.1⟩];rfl
  ·cases hr
 ·have rl:=h.fj hl;simp only[QD,QO,Option.isSome_some,Option.isSome_none]at hv;generalize y'.val S=p at ry hv;generalize l'.val S=q at rl hv;unfold na at hv;split at hv<;>simp only[reduceCtorEq,PQ.mV.injEq,List.cons.injEq,and_true,and_false]at*<;>try contradiction
  rename_i s k n _ e1;obtain⟨rfl,rfl⟩:=e1;simp only[Qb,mV]at hv;obtain⟨r,hr,rfl⟩:=hv;split at hr
  ·rename_i hb;injection hr with hr
   subst hr;refine Good.pure h (v:= .string (s.extract 0 n.toNat)) ?_ (.str _);rw[hx s ry.nq,Qe,Qq64,rl.eV,run_slice_string_to_if w t s k n ht,Qr ⟨hb.2.1,hb.2.2⟩];rfl
  ·cases hr
 ·have rl:=h.fj hl;have rm:=h.fj hm;simp only[QD,QO,Option.isSome_some]at hv;generalize y'.val S=p at ry hv;generalize l'.val S=q at rl hv;generalize m'.val S=q' at rm hv;unfold na at hv;split at hv<;>simp only[reduceCtorEq,PQ.mV.injEq,List.cons.injEq,and_true,and_false]at*<;>try contradiction
  rename_i s k n k' n' _ e1;obtain⟨rfl,rfl,rfl⟩:=e1;simp only[Qb,mV]at hv;obtain⟨r,hr,rfl⟩:=hv;split at hr
  ·rename_i hb;injection hr with hr
   subst hr;refine Good.pure h (v:= .string (s.extract n.toNat n'.toNat)) ?_ (.str _);rw[hx s ry.nq,Qe,Qe,rl.eV,rm.eV,run_slice_string w t s k k' n n' ht hb.1 hb.2.1 hb.2.2];rfl
  ·cases hr
theorem U8{M:Nat->Prop}{G:Gh}{t:TypeId}{n:Option Nat}{cs':List PV}{vs:List Value}{off:Nat}{x:PV}(ht:s4 P t=some n)(hrd:bg w M G cs' (vs.drop off))(hx:xb n cs'=some x):∃v,(part t vs.toArray off).run P w= .ok v w/\bm w M G x v:=by
 cases n with
 |none=>
  cases hcs:cs' with
  |nil=>rw[hcs]at hx;simp[xb]at hx
  |cons y ys=>
   rw[hcs]at hx hrd;simp only[xb,Qf]at hx;subst hx;obtain⟨v,us,hus,h1,_⟩:=hrd.cons_inv;refine⟨v,?_,h1⟩
   have hv:vs[off]?=some v:=by
    have:(vs.drop off)[0]?=some v:=by rw[hus];rfl
    simpa[List.getElem?_drop]using this
   have hag:(isAgg t).run P w= .ok false w:=by
    unfold s4 at ht;split at ht
    ·simp at ht
    ·simp at ht
    ·rename_i d _ hu hd;unfold isAgg;rw[Sem.run_bind,run_underlying hd w];cases d<;>simp_all
    ·cases ht
   simp[part,hag,hv]
 |some m=>
  simp only[xb]at hx;split at hx
  ·rename_i hm;injection hx with hx
   subst hx
   have hi:∃i,P.info? t=some i/\i.size=m:=by
    unfold s4 at ht;split at ht
    ·simpa using ht
    ·simpa using ht
    ·simp at ht
    ·cases ht
   obtain⟨i,hi,hs⟩:=hi
   have hag:(isAgg t).run P w= .ok true w:=by
    unfold s4 at ht;unfold isAgg;split at ht
    ·rename_i hu;rw[Sem.run_bind,run_underlying hu w];simp
    ·rename_i hu;rw[Sem.run_bind,run_underlying hu w];simp
    ·simp at ht
    ·cases ht
   have h3:=hrd.take m;refine⟨.agg ((vs.drop off).take m).toArray,?_,.agg _ _ h3.1 h3.2⟩;simp only[part,Sem.run_bind,hag,Result.andThen_ok,sizeOf,typeInfo];simp[program,Sem.run,hi,hs]
  ·cases hx
theorem ac6{M:Nat->Prop}{G:Gh}{t:TypeId}{n:Option Nat}{cs:List PV}{vs:List Value}{off:Nat}{x:PV}(ht:s4 P t=some n)(hr:bg w M G cs vs)(hx:xb n ((cs.drop off).map nz)=some x):∃v,(part t vs.toArray off).run P w= .ok v w/\bm w M G x v:=by
 have hrd:bg w M G ((cs.drop off).map nz) (vs.drop off):=⟨by simp[hr.1],fun i y v hy hv=>by
  rw[QT,Qb]at hy;obtain⟨y0,hy0,rfl⟩:=hy;have h0:=(hr.drop off).2 i y0 v hy0 hv
  cases h0 with
  |dW=>exact .slnil
  |any=>exact .any _
  |undef=>exact .undef
  |int k n=>exact .int k n
  |bool b=>exact .bool b
  |fW b=>exact .fW b
  |str s=>exact .str s
  |jW=>exact .jW
  |bY f caps us hl h=>exact .bY f caps us hl h
  |jx f caps us hl h=>exact .jx f caps us hl h
  |agg cs us hl h=>exact .agg cs us hl h
  |dg cs us hl h=>exact .dg cs us hl h
  |ptr id ak off a hN hV h=>exact .ptr id ak off a hN hV h
  |ref cs a us hl hc h=>exact .ref cs a us hl hc h
  |sl es a c k us hk hl hc h hn hm=>exact .sl es a c k us hk hl hc h hn hm
  |slnil=>exact .slnil
  |own id ak a n c hN hV h=>exact .own id ak a n c hN hV h
  |eN id ak k i off a hN hV h=>exact .eN id ak k i off a hN hV h
  |view id ak k lo n a c hN hV h=>exact .view id ak k lo n a c hN hV h
  |wM=>exact .wM
  |xF T v=>exact .xF T v
  |jw T x v hp h=>exact .jw T x v hp h
  |jg ks us b es ck hb hMb hk hl h1 h2=>exact .jg ks us b es ck hb hMb hk hl h1 h2⟩
 exact U8 ht hrd hx
theorem agP(h:Rel E S a w L){t:TypeId}{fs:Array Field}{f:Field}{n:Option Nat}{i:Nat}{y:Operand}{y':bn}(ho:o.op= .field t y i)(ht:P.underlying t=some (.struct fs))(hf:fs[i]?=some f)(hn:s4 P f.type=some n)(hy:bd y=some y')
  (he:exec Γ nid S (.Jv n f.offset y')=some (x,wr)):Good P E S a w o x wr:=by
 have ry:=h.fj hy;simp only[exec]at he;split at he
 ·rename_i cs e1;rw[e1]at ry;obtain⟨vs,hv,hr⟩:=ry.qQ;simp only[Qb]at he;obtain⟨b,hb,he⟩:=he;injection he with h1 h2
  subst h1 h2;obtain⟨v,hp,hrv⟩:=U8 (w:=w) hn (hr.drop f.offset) hb;refine Good.pure h (v:=v) ?_ hrv;simp[execOp,ho,Instr.field,run_underlying ht,hv,hf,asAgg,hp]
 ·cases he
theorem afv(h:Rel E S a w L){t e:TypeId}{n:Option Nat}{len:Nat}{i:TypeInfo}{y z:Operand}{y' z':bn}(ho:o.op= .index t y z)(ht:P.underlying t=some (.array len e))(hn:s4 P e=some n)(hi:P.info? e=some i)(hy:bd y=some y')(hz:bd z=some z')
  (he:exec Γ nid S (.Dw e n len i.size y' z')=some (x,wr)):Good P E S a w o x wr:=by
 have ry:=h.fj hy;have rz:=h.fj hz;simp only[exec]at he;split at he
 ·rename_i cs kk j e1 e2;rw[e1]at ry;rw[e2]at rz;obtain⟨vs,hv,hr⟩:=ry.qQ;have hj:=rz.eV;split at he
  ·rename_i h0;simp only[Qb]at he;obtain⟨b,hb,he⟩:=he;injection he with h1 h2
   subst h1 h2;obtain⟨v,hp,hrv⟩:=ac6 (w:=w) hn hr hb;refine Good.pure h (v:=v) ?_ hrv;have hsz:(Go.sizeOf e).run P w= .ok i.size w:=by simp[sizeOf,typeInfo,program,Sem.run,hi]
   simp[execOp,ho,Instr.index,run_underlying ht,hv,hj,asIntOf,h0.1,h0.2,hsz,hp]
  ·cases he
 ·cases he
theorem Rel.Tq(h:Rel E S a w L){y:PV}{v:Value}{es:List (List PV)}(r:bm w (br E S L) (S.gh L) y v)(he:iY S y=some es):∃(ad:Option Addr) (c:Nat),v= .slice ad es.length c:=by
 unfold iY at he;split at he
 ·injection he with he;subst he;exact⟨none,0,r.rD⟩
 ·injection he with he;subst he
  rcases r.BA with⟨hv,h0⟩|⟨ad,c,k,vs,hv,_⟩
  ·subst h0;exact⟨none,0,hv⟩
  ·exact⟨_,_,hv⟩
 ·rename_i id ak;split at he
  ·rename_i hver;split at he
   ·rename_i hc;injection he with he;subst he
    obtain⟨hN,hv⟩:=r.mj (show(S.gh L).V id=ak from hver)
    obtain⟨vs,hown,hk,hr⟩:=h.jt hN hc;rcases hown.2 with⟨hL,h0⟩|⟨g,cap,cur,hL,_⟩
    ·exact⟨none,0,by rw[hv,show(S.gh L).L id=L id from rfl,hL,h0]⟩
    ·exact⟨_,_,by rw[hv,show(S.gh L).L id=L id from rfl,hL]⟩
   ·cases he
  ·cases he
 ·rename_i id ak k lo n;split at he
  ·rename_i hver;split at he
   ·split at he
    ·rename_i e1 k' es0 hc _;injection he with he;subst he
     obtain⟨hN,ad,c,hv,hat⟩:=r.yJ (show(S.gh L).V id=ak from hver)
     have hb:=h.HO hN hc hat;refine⟨ad,c,?_⟩;rw[hv];congr 1;simp;omega
    ·cases he
   ·cases he
  ·cases he
 ·cases he
theorem afr(h:Rel E S a w L){y:Operand}{y':bn}{t:TypeId}(ho:o.op= .call {callee:= .builtin .len,args:=#[y],argTypes:=#[t]})(ht:P.underlying t=some .string)(hy:bd y=some y')
  (he:exec Γ nid S (.len true y')=some (x,wr)):Good P E S a w o x wr:=by
 have r:=h.fj hy;simp only[exec]at he;split at he
 ·rename_i s e;rw[e]at r;obtain⟨rfl,rfl⟩:=bV he;have hv:=r.nq;exact Good.pure h (by simp[execOp,ho,resolve,invoke,builtin,Builtin.len_,run_underlying ht,hv,goInt]) (.int _ _)
 ·cases he
theorem agO(h:Rel E S a w L){y:Operand}{y':bn}{t e:TypeId}(ho:o.op= .call {callee:= .builtin .len,args:=#[y],argTypes:=#[t]})(ht:P.underlying t=some (.slice e))(hy:bd y=some y')
  (he:exec Γ nid S (.len false y')=some (x,wr)):Good P E S a w o x wr:=by
 have r:=h.fj hy;simp only[exec,Qb]at he;obtain⟨es,hes,he⟩:=he;injection he with h1 h2
 subst h1 h2;obtain⟨ad,c,hv⟩:=h.Tq r hes;exact Good.pure h (by simp[execOp,ho,resolve,invoke,builtin,Builtin.len_,run_underlying ht,hv,goInt]) (.int _ _)
theorem Tf(h:Rel E S a w L){y z:Operand}{y' z':bn}{mx:Bool}{ts:Array TypeId}(ho:o.op= .call {callee:= .builtin (if mx then .max else .min),args:=#[y,z],argTypes:=ts})(hy:bd y=some y')(hz:bd z=some z')
  (he:exec Γ nid S (.tY mx y' z')=some (x,wr)):Good P E S a w o x wr:=by
 have ry:=h.fj hy;have rz:=h.fj hz;simp only[exec]at he;split at he
 ·rename_i k p k' q e1 e2;split at he
  ·rename_i hk;subst hk;obtain⟨rfl,rfl⟩:=bV he;rw[e1]at ry;rw[e2]at rz;have hv:=ry.eV;have hu:=rz.eV;cases mx
   ·exact Good.pure h (by simp[execOp,ho,resolve,invoke,builtin,Builtin.min_,Builtin.min2,hv,hu]) (.int _ _)
   ·exact Good.pure h (by simp[execOp,ho,resolve,invoke,builtin,Builtin.max_,Builtin.max2,hv,hu]) (.int _ _)
  ·cases he
 ·cases he
end
end
section
open Go.RowKit
section
variable {P : Program} {E : En} {S : St} {a : Act} {w : World} {L : Nat -> Value} {o : Oper} {x : PV} {wr : Option (Nat × fE)} {Γ : mR} {nid : Nat}
theorem MF(off:Nat):∀(vs:List Value) (s:Nat) (cells:Array Value),off+s+vs.length<=cells.size->
  ((vs.zipIdx s).foldl (fun cs (p:Value×Nat)=>cs.setIfInBounds (off+p.2) p.1) cells).toList=cells.toList.take (off+s)++vs++cells.toList.drop (off+s+vs.length)
 |[],s,cells,_=>by simp
 |v::vs,s,cells,h=>by
  simp only[List.zipIdx_cons,QU];rw[MF off vs (s+1) _ (by simp at h ⊢;omega)]
  have:=list_seg_step cells.toList (off+s) v vs (by simp at h ⊢;omega)
  simpa[Array.toList_setIfInBounds,Nat.add_assoc]using this
theorem Xg(off:Nat)(vs cells:Array Value)(h:off+vs.size<=cells.size):
  (vs.zipIdx.foldl (fun cs (p:Value×Nat)=>cs.setIfInBounds (off+p.2) p.1) cells).toList=cells.toList.take off++vs.toList++cells.toList.drop (off+vs.size):=by
 have:=MF off vs.toList 0 cells (by simpa using h)
 simp only[Nat.add_zero,Array.length_toList]at this;rw[<-this,<-Array.foldl_toList];simp
theorem bg.gW{M:Nat->Prop}{G:Gh}{cs xs:List PV}{vs us:List Value}(h:bg w M G cs vs)(k:bg w M G xs us)(off:Nat):
  bg w M G (gW cs off xs) (vs.take off++us++vs.drop (off+us.length)):=by
 unfold TQ.gW;rw[k.1];exact((h.take off).append k).append (h.drop _)
theorem Ij(h:Rel E S a w L)(place:Nat->Option (Nat×Nat)):∀(parts:List (Nat×Operand)) (ps:List (Nat×Nat×bn)) (cells:Array Value) (cs cs':List PV),vT place parts=some ps->
  bg w (br E S L) (S.gh L) cs cells.toList->qO S cs ps=some cs'->∃cells',Instr.fill place cells (parts.map fun p=>(p.1,a.eval p.2))=some cells'/\bg w (br E S L) (S.gh L) cs' cells'.toList
 |[],ps,cells,cs,cs',hp,hr,hf=>by
  simp[vT]at hp;subst hp;simp only[qO,Qf]at hf;subst hf;exact⟨cells,rfl,hr⟩
 |(i,y)::rest,ps,cells,cs,cs',hp,hr,hf=>by
  simp only[vT,Qq74,Qd,Qc,Option.pure_def,Qf]at hp;obtain⟨_,⟨⟨off,n⟩,hq,y',hy,rfl⟩,qs,hqs,rfl⟩:=hp;simp only[qO]at hf;split at hf
  ·rename_i hb;obtain⟨h1,h2,h3⟩:=hb;have r:=(h.fj hy).cells (fun z hz=>QH.1 h3 z hz)
   have hn:(a.eval y).cells.size=n:=by have:=r.1.1;simp at this;omega
   have hlen:cells.size=cs.length:=by have:=hr.1;simpa using this
   have hfc:=Xg off (a.eval y).cells cells (by omega)
   have hr2:bg w (br E S L) (S.gh L) (TQ.gW cs off (y'.val S).cells) ((a.eval y).cells.zipIdx.foldl (fun cs (p:Value×Nat)=>cs.setIfInBounds (off+p.2) p.1) cells).toList:=by
    rw[hfc];have:=hr.gW r.1 off;simpa using this
   obtain⟨cells',hfl,hr'⟩:=Ij h place rest qs _ _ cs' hqs hr2 hf;refine⟨cells',?_,hr'⟩;simp only[QD,Instr.fill,hq];rw[Qs (by simp[hn];omega)]
   exact hfl
  ·cases hf
theorem LN{M:Nat->Prop}{G:Gh}:∀{vs:List Value} {cs:List PV},vs.mapM xg=some cs->bg w M G cs vs
 |[],cs,h=>by simp at h;subst h;exact .nil
 |v::vs,cs,h=>by
  simp only[Qq74,Qd,Qc,Option.pure_def,Qf]at h;obtain⟨x,hx,xs,hxs,rfl⟩:=h;exact .cons (zP hx) (LN hxs)
theorem Ek{M:Nat->Prop}{G:Gh}{t:TypeId}{z:List PV}(h:xo P t=some z):∃i v,P.info? t=some i/\i.zero=some v/\v.cells.size=i.size/\bg w M G z v.cells.toList:=by
 unfold xo at h;split at h
 ·rename_i i hi;split at h
  ·rename_i v hv;split at h
   ·rename_i hs;exact⟨i,v,hi,hv,hs,LN h⟩
   ·cases h
  ·cases h
 ·cases h
theorem VA(h:Rel E S a w L){t:TypeId}{parts:Array (Nat×Operand)}{z:List PV}{ps:List (Nat×Nat×bn)}(ho:o.op= .build t parts)(hz:xo P t=some z)
  (hp:(∃fields places,P.underlying t=some (.struct fields)/\fields.toList.mapM (fun f=>(P.info? f.type).map fun i=>(f.offset,i.size))=some places/\vT (fun i=>places[i]?) parts.toList=some ps)\/
   (∃n e i,P.underlying t=some (.array n e)/\P.info? e=some i/\vT (fun j=>some (j*i.size,i.size)) parts.toList=some ps))
  (he:exec Γ nid S (.build z ps)=some (x,wr)):Good P E S a w o x wr:=by
 simp only[exec,Qb]at he;obtain⟨cs,hf,he⟩:=he;injection he with h1 h2
 subst h1 h2;obtain⟨i,v,hi,hv,hs,hr⟩:=Ek (P:=P) (w:=w) (M:=br E S L) (G:=S.gh L) hz;rcases hp with⟨fields,places,hu,hpl,hc⟩|⟨n,e,ie,hu,hie,hc⟩
 ·obtain⟨cells,hfl,hr'⟩:=Ij h _ _ _ _ _ _ hc hr hf;refine Good.pure (v:= .agg cells) h ?_ (by have:=hr';exact(show(cells:Array Value)=cells.toList.toArray by simp)▸ .agg cs cells.toList this.1 this.2)
  have hb:P.built t (parts.map fun(i,x)=>(i,a.eval x)).toList=some cells:=by
   simp only[Program.built,hi,hu,hv,hpl];simpa using hfl
  simp only[execOp,ho,Sem.run_bind,run_build w t _ cells hb,Result.andThen_ok,Sem.run_pure]
 ·obtain⟨cells,hfl,hr'⟩:=Ij h _ _ _ _ _ _ hc hr hf;refine Good.pure (v:= .agg cells) h ?_ (by have:=hr';exact(show(cells:Array Value)=cells.toList.toArray by simp)▸ .agg cs cells.toList this.1 this.2)
  have hb:P.built t (parts.map fun(i,x)=>(i,a.eval x)).toList=some cells:=by
   simp only[Program.built,hi,hu,hv,hie];simpa using hfl
  simp only[execOp,ho,Sem.run_bind,run_build w t _ cells hb,Result.andThen_ok,Sem.run_pure]
end
end
section
open Go.RowKit
section
variable {P : Program} {E : En} {S : St} {a : Act} {w : World} {L : Nat -> Value} {o : Oper} {x : PV} {wr : Option (Nat × fE)} {Γ : mR} {nid : Nat}
theorem Rel.YZ(h:Rel E S a w L)(hn:nid<S.N){cs:List PV}{cur:Array Value}(T:TypeId)(hr:bg w (br E S L) (S.gh L) cs cur.toList):
  ∃L',Rel E (S.eO (some (nid,⟨(S.H nid).ak+1,.box cs⟩))) a (w.alloc (.cells cur T)) L'/\
   bm (w.alloc (.cells cur T)) (br E (S.eO (some (nid,⟨(S.H nid).ak+1,.box cs⟩))) L') ((S.eO (some (nid,⟨(S.H nid).ak+1,.box cs⟩))).gh L') (.ptr nid ((S.H nid).ak+1) 0) (.pointer (some ⟨w.heap.size,0,none⟩)):=by
 obtain⟨h1,hs,hg⟩:=h.qA (w':=w.alloc (.cells cur T)) hn ⟨(S.H nid).ak+1,.box cs⟩ (.pointer (some ⟨w.heap.size,0,none⟩)) (.inr (Nat.lt_succ_self _)) rfl rfl rfl (by simp)
  (fun b hb _=>Below.heap_alloc _ _ _ hb) (fun b _ hb=> .inr (by simp only[cW,Qf]at hb;omega))
  (fun hs hg=>⟨w.heap.size,cur,T,rfl,heap_alloc_new w _,.inr h.fr.size,hr.mono hs hg⟩)
 refine⟨_,h1,?_⟩;refine .ptr _ _ _ _ hn ?_ (fun _=> ?_)
 ·simp[St.gh,St.eO,bZ]
 ·simp[St.gh,St.eO,bZ,cW]
theorem Rel.Vi(h:Rel E S a w L)(hn:nid<S.N){e k c:Nat}{es:List (List PV)}{cur:Array Value}(hk:∀u∈es,u.length=k)(hec:es.length<=c)(hm:c<=maxLen)(hcl:cur.toList.length=c*k)(hr:bg w (br E S L) (S.gh L) es.flatten (cur.toList.take (es.length*k))):
  ∃L',Rel E (S.eO (some (nid,⟨(S.H nid).ak+1,.row e k es⟩))) a (w.alloc (.cells cur e)) L'/\
   bm (w.alloc (.cells cur e)) (br E (S.eO (some (nid,⟨(S.H nid).ak+1,.row e k es⟩))) L') ((S.eO (some (nid,⟨(S.H nid).ak+1,.row e k es⟩))).gh L') (.own nid ((S.H nid).ak+1)) (.slice (some ⟨w.heap.size,0,none⟩) es.length c):=by
 have hl:(cur.toList.take (es.length*k)).length=es.length*k:=by rw[hr.1,lO es k hk]
 obtain⟨h1,hs,hg⟩:=h.qA (w':=w.alloc (.cells cur e)) hn ⟨(S.H nid).ak+1,.row e k es⟩ (.slice (some ⟨w.heap.size,0,none⟩) es.length c) (.inr (Nat.lt_succ_self _)) rfl rfl rfl (by simp)
  (fun b hb _=>Below.heap_alloc _ _ _ hb) (fun b _ hb=> .inr (by simp only[cW,Qf]at hb;omega))
  (fun hs hg=>⟨cur.toList.take (es.length*k),⟨hl,.inr ⟨w.heap.size,c,cur,rfl,QK (Lc E _) h.fr.size,heap_alloc_new w _,hec,hm,by simpa using hcl,rfl⟩⟩,hk,hr.mono hs hg⟩)
 refine⟨_,h1,?_⟩;refine .own _ _ _ _ _ hn ?_ (fun _=> ?_)
 ·simp[St.gh,St.eO,bZ]
 ·simp[St.gh,St.eO,bZ]
theorem Rel.newRow(h:Rel E S a w L)(hn:nid<S.N){e k:Nat}{es:List (List PV)}{cur:Array Value}(hk:∀u∈es,u.length=k)(hm:es.length<=maxLen)(hr:bg w (br E S L) (S.gh L) es.flatten cur.toList):
  ∃L',Rel E (S.eO (some (nid,⟨(S.H nid).ak+1,.row e k es⟩))) a (w.alloc (.cells cur e)) L'/\
   bm (w.alloc (.cells cur e)) (br E (S.eO (some (nid,⟨(S.H nid).ak+1,.row e k es⟩))) L') ((S.eO (some (nid,⟨(S.H nid).ak+1,.row e k es⟩))).gh L') (.own nid ((S.H nid).ak+1)) (.slice (some ⟨w.heap.size,0,none⟩) es.length es.length):=by
 have hl:cur.toList.length=es.length*k:=by rw[hr.1,lO es k hk]
 exact h.Vi hn hk (QI _) hm hl (by rw[<-hl,Q9];exact hr)
theorem K7(e:TypeId)(cells:Array Value):(newRow e cells).run P w= .ok ⟨w.heap.size,0,none⟩ (w.alloc (.cells cells e)):=rfl
theorem Ew(e:TypeId)(v:Value):(newVar e v).run P w= .ok ⟨w.heap.size,0,none⟩ (w.alloc (.cells v.cells e)):=rfl
theorem ab8(h:Rel E S a w L)(hn:nid<S.N){t:TypeId}{y:Operand}{y':bn}(ho:o.op= .box t y)(hy:bd y=some y')(he:exec Γ nid S (.box y')=some (x,wr)):Good P E S a w o x wr:=by
 simp only[exec]at he;split at he
 ·rename_i h1;obtain⟨rfl,rfl⟩:=bV he;have r:=((h.fj hy).cells (fun z hz=>QH.1 h1 z hz)).1
  obtain⟨L',h2,h3⟩:=h.YZ hn t r;exact⟨_,_,L',_,by simp[execOp,ho,Instr.box,Ew],.inl rfl,h3,h2⟩
 ·cases he
theorem adN(h:Rel E S a w L)(hn:nid<S.N){t:TypeId}{z:List PV}(ho:o.op= .alloc t)(hz:xo P t=some z)(he:exec Γ nid S (.alloc z)=some (x,wr)):Good P E S a w o x wr:=by
 simp only[exec]at he;obtain⟨rfl,rfl⟩:=bV he;obtain⟨i,v,hi,hv,hs,hr⟩:=Ek (P:=P) (w:=w) (M:=br E S L) (G:=S.gh L) hz;obtain⟨L',h2,h3⟩:=h.YZ hn t hr;exact⟨_,_,L',_,by simp[execOp,ho,Instr.alloc,zeroValue,typeInfo,hi,hv,Ew],.inl rfl,h3,h2⟩
theorem GM(z:Array Value)(hz:0<z.size)(n:Nat):((Array.range (n*z.size)).map (z[· % z.size]!)).toList=(List.replicate n z.toList).flatten:=by
 apply List.ext_getElem?;intro i;have hfl:(List.replicate n z.toList).flatten.length=n*z.size:=by rw[lO _ z.size (fun u hu=>by rw[(List.mem_replicate.1 hu).2];simp)];simp
 by_cases hi:i<n*z.size
 ·have hq:i / z.size<n:=by rw[Nat.div_lt_iff_lt_mul hz];exact hi
  have hr:i % z.size<z.size:=Nat.mod_lt _ hz;have:=xV (List.replicate n z.toList) z.size (i / z.size) z.toList (fun u hu=>by rw[(List.mem_replicate.1 hu).2];simp) (by rw[List.getElem?_replicate,Qr hq]) (i % z.size) hr
  have e:i / z.size*z.size+i % z.size=i:=by rw[Nat.mul_comm];exact Nat.div_add_mod i z.size
  rw[e]at this;rw[this];simp[hi,hr]
 ·rw[Qq71 (by simp;omega),Qq71 (by omega)]
theorem Dr{α:Type}:∀(es:List (List α)) (k i:Nat) (xs:List α),(∀u∈es,u.length=k)->xs.length=k->i<es.length->(es.set i xs).flatten=es.flatten.take (i*k)++xs++es.flatten.drop (i*k+xs.length)
 |[],_,_,_,_,_,h=>by simp at h
 |e::es,k,i,xs,hk,hx,hi=>by
  have he:e.length=k:=hk e (by simp)
  cases i with
  |zero=>
   simp only[List.set_cons_zero,List.flatten_cons,Nat.zero_mul,List.take_zero,List.nil_append,Nat.zero_add];rw[hx,<-he,List.drop_left]
  |succ i=>
   have:=Dr es k i xs (fun u hu=>hk u (by simp[hu])) hx (by simpa using hi)
   simp only[List.set_cons_succ,List.flatten_cons,this];have e1:(i+1)*k=e.length+i*k:=by rw[Qq72,he];omega
   rw[e1,List.take_append,List.take_of_length_le (show e.length<=e.length+i*k by omega),Nat.add_sub_cancel_left,Nat.add_assoc,List.drop_append,
    List.drop_eq_nil_of_le (show e.length<=e.length+(i*k+xs.length)by omega),Nat.add_sub_cancel_left]
   simp
theorem OT(k:Nat):∀(ps:List (Nat×bn)) (es es':List (List PV)),(∀u∈es,u.length=k)->uf S k es ps=some es'->
  qO S es.flatten (ps.map fun p=>(p.1*k,k,p.2))=some es'.flatten/\(∀u∈es',u.length=k)/\es'.length=es.length
 |[],es,es',hk,hf=>by simp only[uf,Qf]at hf;subst hf;exact⟨rfl,hk,rfl⟩
 |(i,y)::ps,es,es',hk,hf=>by
  simp only[uf]at hf;split at hf
  ·rename_i hb;obtain⟨h1,h2,h3⟩:=hb
   have hk':∀u∈es.set i (y.val S).cells,u.length=k:=by
    intro u hu;rcases List.mem_or_eq_of_mem_set hu with hu|hu
    ·exact hk u hu
    ·rw[hu,h1]
   obtain⟨h4,h5,h6⟩:=OT k ps _ _ hk' hf;refine⟨?_,h5,by simpa using h6⟩
   have hle:i*k+k<=es.flatten.length:=by
    rw[lO es k hk];have:=Qq62 k (show i+1<=es.length by omega)
    rw[Qq72]at this;omega
   simp only[QD,qO];rw[Qr ⟨h1,hle,h3⟩];rw[Dr es k i _ hk h1 h2]at h4;exact h4
  ·cases hf
theorem OZ{k:Nat}:∀{parts:List (Nat×Operand)} {ps:List (Nat×bn)},(parts.mapM fun p=>(bd p.2).map fun y=>(p.1,y))=some ps->vT (fun j=>some (j*k,k)) parts=some (ps.map fun p=>(p.1*k,k,p.2))
 |[],ps,h=>by simp at h;subst h;simp[vT]
 |p::parts,ps,h=>by
  simp only[Qq74,Qd,Qc,Option.pure_def,Qf,Qb]at h;obtain⟨q,⟨y,hy,rfl⟩,qs,hqs,rfl⟩:=h;have ih:=OZ (k:=k) hqs;unfold vT at ih ⊢;simp only[Qq74,ih];simp[hy]
theorem AE{M:Nat->Prop}{G:Gh}{z:List PV}{vs:List Value}(h:bg w M G z vs):∀n,bg w M G (List.replicate n z).flatten (List.replicate n vs).flatten
 |0=>by simpa using bg.nil
 |n+1=>by simp only[List.replicate_succ,List.flatten_cons];exact h.append (AE h n)
theorem bm.VO{M:Nat->Prop}{G G':Gh}{y:PV}{v:Value}(h:bm w M G y v)(hc:y.closed=true):bm w M G' y v:=by
 cases h with
 |any=>simp[PV.closed]at hc
 |undef=>simp[PV.closed]at hc
 |int=>exact .int _ _
 |bool=>exact .bool _
 |fW=>first|exact .fW _|simp[PV.closed]at hc
 |str=>exact .str _
 |jW=>exact .jW
 |dW=>exact .dW
 |bY f cs vs hl h=>
  cases cs with
  |nil=>exact .bY f [] vs hl (fun i x v hx _=>by simp at hx)
  |cons=>simp[PV.closed]at hc
 |jx=>simp[PV.closed]at hc
 |agg=>simp[PV.closed]at hc
 |dg=>simp[PV.closed]at hc
 |ptr=>simp[PV.closed]at hc
 |ref cs ad vs hl hcell h=>exact .ref cs ad vs hl hcell h
 |sl es ad c k vs hk hl hcell h hn hm=>exact .sl es ad c k vs hk hl hcell h hn hm
 |slnil=>exact .slnil
 |own=>simp[PV.closed]at hc
 |eN=>simp[PV.closed]at hc
 |view=>simp[PV.closed]at hc
 |wM=>exact .wM
 |xF T v=>exact .xF T v
 |jw T x v hp h=>exact .jw T x v hp (h.plain hp)
 |jg ks us b es ck hb hMb hk hv h1 h2=>exact .jg ks us b es ck hb hMb hk hv h1 h2
theorem afu(h:Rel E S a w L){t:TypeId}{y:Operand}{y':bn}(ho:o.op= .box t y)(hy:bd y=some y')(he:exec Γ nid S (.Du y')=some (x,wr)):Good P E S a w o x wr:=by
 simp only[exec]at he;split at he
 ·rename_i h1;rw[Qm]at h1;obtain⟨rfl,rfl⟩:=bV he;have r:=((h.fj hy).cells (fun z hz=>QH.1 h1.1 z hz)).1
  obtain⟨h2,hs1⟩:=h.grow (w':=w.alloc (.cells (a.eval y).cells t)) rfl rfl rfl (by simp) (fun b hb=>Below.heap_alloc _ _ _ hb)
  refine⟨.value (.pointer (some ⟨w.heap.size,0,none⟩)),_,L,_,by simp[execOp,ho,Instr.box,Ew],.inl rfl,?_,h2⟩
  have r2:bg (w.alloc (.cells (a.eval y).cells t)) (br E S L) dX (y'.val S).cells (a.eval y).cells.toList:=
   ⟨r.1,fun i0 z v0 hz hv0=>((r.2 i0 z v0 hz hv0).mono hs1 (Gh.le.refl _)).VO (QH.1 h1.2 z (Q7 hz))⟩
  refine .ref _ _ (a.eval y).cells.toList r2.1 (fun q u hu=>⟨?_,fun hm=> ?_⟩) r2.2
  ·rw[add_mid];exact o0 (heap_alloc_new w _) (by simpa using hu)
  ·rcases hm with⟨id,hid,hl,hb⟩|hm
   ·have:=((h.obj id hid).ya hl hb).1;exact absurd this (Nat.lt_irrefl _)
   ·have h8:=E.hX.lt _ hm;have h9:=h.fr.size;simp only at h8;omega
 ·cases he
theorem bm.nz{M:Nat->Prop}{G:Gh}{y:PV}{v:Value}(h:bm w M G y v):bm w M G (nz y) v:=by
 cases h with
 |dW=>exact .slnil
 |any=>exact .any _
 |undef=>exact .undef
 |int=>exact .int _ _
 |bool=>exact .bool _
 |fW=>exact .fW _
 |str=>exact .str _
 |jW=>exact .jW
 |bY f cs vs hl h=>exact .bY f cs vs hl h
 |jx f cs vs hl h=>exact .jx f cs vs hl h
 |agg cs vs hl h=>exact .agg cs vs hl h
 |dg cs vs hl h=>exact .dg cs vs hl h
 |ptr _ _ _ _ h1 h2 h3=>exact .ptr _ _ _ _ h1 h2 h3
 |ref cs ad vs hl hc h=>exact .ref cs ad vs hl hc h
 |sl es ad c k vs hk hl hc h hn hm=>exact .sl es ad c k vs hk hl hc h hn hm
 |slnil=>exact .slnil
 |own _ _ _ _ _ h1 h2 h3=>exact .own _ _ _ _ _ h1 h2 h3
 |eN _ _ _ _ _ _ h1 h2 h3=>exact .eN _ _ _ _ _ _ h1 h2 h3
 |view _ _ _ _ _ _ _ h1 h2 h3=>exact .view _ _ _ _ _ _ _ h1 h2 h3
 |wM=>exact .wM
 |xF T v=>exact .xF T v
 |jw T x v hp h=>exact .jw T x v hp (h.plain hp)
 |jg ks us b es ck hb hMb hk hv h1 h2=>exact .jg ks us b es ck hb hMb hk hv h1 h2
theorem bg.nz{M:Nat->Prop}{G:Gh}{cs:List PV}{vs:List Value}(h:bg w M G cs vs):bg w M G (cs.map Go.TQ.nz) vs:=
 ⟨by simp[h.1],fun i x v hx hv=>by
  rw[QT,Qb]at hx;obtain⟨y,hy,rfl⟩:=hx
  exact(h.2 i y v hy hv).nz⟩
theorem Ji(es:List (List PV)):(BL es).flatten=es.flatten.map nz:=by
 simp[BL,List.map_flatten]
theorem WI(es:List (List PV)):(BL es).length=es.length:=by simp[BL]
theorem adh{es:List (List PV)}{k:Nat}(h:∀u∈es,u.length=k):∀u∈BL es,u.length=k:=by
 intro u hu;simp only[BL,QP]at hu;obtain⟨e,he,rfl⟩:=hu;simpa using h e he
theorem YT{y:PV}(h:y.closed=true):(nz y).closed=true:=by
 cases y<;>simp_all [nz,PV.closed]
theorem agR(h:Rel E S a w L)(hn:nid<S.N){t e:TypeId}{len:Nat}{parts:Array (Nat×Operand)}{i:TypeInfo}{z:List PV}{ps:List (Nat×bn)}{mb:Bool}(ho:o.op= .buildSlice t len parts)(ht:P.underlying t=some (.slice e))
  (hi:P.info? e=some i) (hz:xo P e=some z) (hps:(parts.toList.mapM fun p=>(bd p.2).map fun y=>(p.1,y))=some ps) (hsm:len*i.size<=16777216) (h0:0<i.size) (hlen:len<=maxLen)
  (he:exec Γ nid S (.MT mb e i.size (List.replicate len z) ps)=some (x,wr)):Good P E S a w o x wr:=by
 simp only[exec]at he;split at he
 case h_2=>cases he
 rename_i es hf;obtain⟨i',v,hi',hv,hs,hr⟩:=Ek (P:=P) (w:=w) (M:=br E S L) (G:=S.gh L) hz;rw[hi]at hi';injection hi' with hi'
 subst hi';have hzl:z.length=i.size:=by have:=hr.1;simp at this;omega
 obtain⟨h3,h4,h5⟩:=OT i.size ps _ _ (fun u hu=>by rw[(List.mem_replicate.1 hu).2,hzl]) hf
 have hr0:bg w (br E S L) (S.gh L) (List.replicate len z).flatten ((Array.range (len*i.size)).map (v.cells[· % v.cells.size]!)).toList:=by
  rw[<-hs,GM v.cells (by omega)]
  exact AE hr len
 obtain⟨cells,hfl,hr'⟩:=Ij h _ _ _ _ _ _ (OZ hps) hr0 h3;have hle:(BL es).length=len:=by rw[WI,h5];simp
 replace h4:=adh h4;replace hr':=hr'.nz;rw[<-Ji]at hr'
 have hrun:(execOp a.eval o).run P w= .ok (.value (.slice (some ⟨w.heap.size,0,none⟩) len len)) (w.alloc (.cells cells e)):=by
  have hfl':Instr.fill (fun j=>some (j*i.size,i.size)) ((Array.range (len*i.size)).map (v.cells[· % v.cells.size]!)) (parts.map fun p=>(p.1,a.eval p.2)).toList=some cells:=by simpa using hfl
  by_cases hl0:len*i.size=0
  ·simp[execOp,ho,Instr.buildSlice,run_underlying ht,sizeOf,typeInfo,hi,hl0]at hfl' ⊢;have hle0:len=0:=by rcases Nat.mul_eq_zero.1 hl0 with h|h<;>omega
   subst hle0;have hnil:∀f:Nat->Value,Array.map f (Array.range 0)=#[]:=fun f=>by simp
   rw[hnil]at hfl' ⊢;rw[show Instr.fill (fun i_1=>some (i_1*i.size,i.size)) #[] (List.map (fun x=>(x.fst,a.eval x.snd)) parts.toList)=some cells from hfl']
   simp[K7]
  ·simp[execOp,ho,Instr.buildSlice,run_underlying ht,sizeOf,typeInfo,zeroValue,hi,hv,hl0,Nat.not_lt.2 hsm]at hfl' ⊢;rw[show Instr.fill (fun i_1=>some (i_1*i.size,i.size)) (Array.map (fun x=>v.cells[x % v.cells.size]!) (Array.range (len*i.size))) (List.map (fun x=>(x.fst,a.eval x.snd)) parts.toList)=some cells from hfl']
   simp[K7]
 split at he
 ·rename_i hcl;obtain⟨rfl,rfl⟩:=bV he;obtain⟨h1,hs1⟩:=h.grow (w':=w.alloc (.cells cells e)) rfl rfl rfl (by simp) (fun b hb=>Below.heap_alloc _ _ _ hb)
  refine⟨_,_,L,_,hrun,.inl rfl,?_,h1⟩
  have hall:∀y∈(BL es).flatten,y.closed=true:=fun y hy=>by
   rw[Ji]at hy;obtain⟨y0,hy0,rfl⟩:=QP.1 hy;obtain⟨u,hu,hyu⟩:=List.mem_flatten.1 hy0;exact YT (QH.1 (QH.1 hcl.2 u hu) y0 hyu)
  have hr2:bg (w.alloc (.cells cells e)) (br E S L) dX (BL es).flatten cells.toList:=
   ⟨hr'.1,fun i0 y v0 hy hv0=>((hr'.2 i0 y v0 hy hv0).mono hs1 (Gh.le.refl _)).VO (hall y (Q7 hy))⟩
  rw[<-hle];refine .sl (BL es) _ _ i.size cells.toList h4 hr2.1 (fun q u hu=>⟨?_,fun hm=> ?_⟩) hr2.2 (QI _) (by omega)
  ·rw[add_mid];exact o0 (heap_alloc_new w _) (by simpa using hu)
  ·rcases hm with⟨id,hid,hl,hb⟩|hm
   ·have:=((h.obj id hid).ya hl hb).1;exact absurd this (Nat.lt_irrefl _)
   ·have h8:=E.hX.lt _ hm;have h9:=h.fr.size;simp only at h8;omega
 ·obtain⟨rfl,rfl⟩:=bV he;obtain⟨L',h6,h7⟩:=h.newRow (e:=e) hn h4 (by omega) hr'
  rw[hle]at h7;exact⟨_,_,L',_,hrun,.inl rfl,h7,h6⟩
theorem agJ(h:Rel E S a w L)(hn:nid<S.N){t e:TypeId}{y z:Operand}{y' z':bn}{i:TypeInfo}{zc:List PV}(ho:o.op= .makeSlice t y z)(ht:P.underlying t=some (.slice e))(hi:P.info? e=some i)(h0:0<i.size)(hz:xo P e=some zc)
  (hy:bd y=some y') (hz':bd z=some z') (he:exec Γ nid S (.LJ e i.size i.bytes zc y' z')=some (x,wr)):Good P E S a w o x wr:=by
 have ry:=h.fj hy;have rz:=h.fj hz';simp only[exec]at he;split at he
 ·rename_i k n k' m e1 e2;split at he
  ·rename_i hb;obtain⟨hnm,hn0,hby,hml⟩:=hb;obtain⟨rfl,rfl⟩:=bV he;rw[e1]at ry;rw[e2]at rz;have hv:=ry.eV;have hu:=rz.eV;obtain⟨i',v,hi',hv0,hs,hr⟩:=Ek (P:=P) (w:=w) (M:=br E S L) (G:=S.gh L) hz;rw[hi]at hi';injection hi' with hi'
   subst hi';have hzl:zc.length=i.size:=by have:=hr.1;simp at this;omega
   have hle:n.toNat<=m.toNat:=by omega
   have hml':(madeCells v.cells (m.toNat*i.size)).toList=(List.replicate m.toNat v.cells.toList).flatten:=by
    unfold madeCells;rw[<-hs,GM v.cells (by omega)]
   have hcl:(madeCells v.cells (m.toNat*i.size)).toList.length=m.toNat*i.size:=by simp[madeCells]
   have hr0:bg w (br E S L) (S.gh L) (List.replicate n.toNat (zc.map nz)).flatten ((madeCells v.cells (m.toNat*i.size)).toList.take ((List.replicate n.toNat (zc.map nz)).length*i.size)):=by
    rw[hml',List.length_replicate,show m.toNat=n.toNat+(m.toNat - n.toNat)by omega,<-List.replicate_append_replicate,List.flatten_append,List.take_left' (by rw[lO _ i.size fun u hu=>by rw[(List.mem_replicate.1 hu).2];simpa using hs,List.length_replicate])]
    exact AE hr.nz _
   obtain⟨L',h6,h7⟩:=h.Vi (e:=e) (k:=i.size) (c:=m.toNat) hn (fun u hu=>by rw[(List.mem_replicate.1 hu).2,QC,hzl]) (by rw[List.length_replicate];exact hle) hml hcl hr0
   simp only[List.length_replicate]at h7;refine⟨_,_,L',_,?_,.inl rfl,h7,h6⟩
   have hbb:(i.bytes:Int)*m<=281474976710656:=by
    have h1:((m.toNat*i.bytes:Nat):Int)<=140737488355328:=by omega
    have h2:((m.toNat:Nat):Int)=m:=Int.toNat_of_nonneg (by omega)
    rw[Int.natCast_mul,h2,Int.mul_comm]at h1;omega
   have hm63:m<=9223372036854775807:=by simp only[maxLen]at hml;omega
   have:=run_make (P:=P) w t e i v ht hi hv0 k k' n m hn0 hnm hbb hm63;simp only[execOp,ho,hv,hu,Sem.run_bind,this,Result.andThen_ok,Sem.run_pure]
  ·cases he
 ·cases he
theorem Gm{t:TypeId}{y z:Operand}{b off:Nat}{cur:Array Value}{T:TypeId}{i:TypeInfo}(ho:o.op= .store t y z)(hi:P.info? t=some i)(hv:a.eval y= .pointer (some ⟨b,off,none⟩))(hh:w.heap[b]?=some (.cells cur T (0,0)))
  (hs:(a.eval z).cells.size=i.size) (hle:off+i.size<=cur.size) (h1:∀u∈(a.eval z).cells.toList,u.oneCell'=true):
  (execOp a.eval o).run P w= .ok .skip (w.setRow b (cur.toList.take off++(a.eval z).cells.toList++cur.toList.drop (off+i.size)).toArray):=by
 have:=run_storeCells_at (P:=P) b off T (a.eval z).cells.toList 0 cur w hh (by simp;omega) h1
 simp only[Nat.add_zero,Array.length_toList,hs]at this;simp[execOp,ho,hv,Instr.storeAt,Instr.sureAddr,storeVar,sizeOf,typeInfo,hi,hs,this]
theorem V8{α:Type}(F c xs:List α)(k J off n:Nat)(hc:c.length=k)(hjk:J+k<=F.length)(hx:xs.length=n)(hle:off+n<=k)(hel:∀q,q<k->F[J+q]?=c[q]?):
  F.take J++(c.take off++xs++c.drop (off+n))++F.drop (J+k)=F.take (J+off)++xs++F.drop (J+off+n):=by
 have h1:F.take (J+off)=F.take J++c.take off:=by
  apply List.ext_getElem?;intro q
  by_cases q1:q<J
  ·rw[List.getElem?_append_left (by simp;omega),Qq67,Qr (by omega),Qq67,Qr q1]
  ·rw[List.getElem?_append_right (by simp;omega),Qq67,Qq67]
   have e:(F.take J).length=J:=by simp;omega
   rw[e]
   by_cases q2:q<J+off
   ·rw[Qr q2,Qr (by omega),<-hel _ (by omega)]
    congr 1;omega
   ·rw[Qs q2,Qs (by omega)]
 have h2:F.drop (J+off+n)=c.drop (off+n)++F.drop (J+k):=by
  apply List.ext_getElem?;intro q;rw[List.getElem?_drop]
  by_cases q1:q<k - (off+n)
  ·rw[List.getElem?_append_left (by simp;omega),List.getElem?_drop,<-hel _ (by omega)]
   congr 1;omega
  ·rw[List.getElem?_append_right (by simp;omega),List.getElem?_drop]
   have e:(c.drop (off+n)).length=k - (off+n):=by simp;omega
   rw[e];congr 1;omega
 rw[h1,h2];simp[QL]
theorem I9{α:Type}(cur xs:List α)(p n m:Nat)(hx:xs.length=n)(h1:p+n<=m)(h2:m<=cur.length):
  (cur.take p++xs++cur.drop (p+n)).take m=(cur.take m).take p++xs++(cur.take m).drop (p+n):=by
 rw[List.take_take,Nat.min_eq_left (by omega),List.take_append,List.take_of_length_le (by simp;omega)]
 congr 1;have e:(cur.take p++xs).length=p+n:=by simp;omega
 rw[e,List.drop_take]
theorem adJ(h:Rel E S a w L){t:TypeId}{y z:Operand}{y' z':bn}{i:TypeInfo}(ho:o.op= .store t y z)(hi:P.info? t=some i)(hy:bd y=some y')(hz:bd z=some z')
  (he:exec Γ nid S (.store i.size y' z')=some (x,wr)):Good P E S a w o x wr:=by
 have r:=h.fj hy;simp only[exec]at he;split at he
 ·rename_i hb;obtain⟨hl,h1⟩:=hb;have rz:=(h.fj hz).cells (fun u hu=>QH.1 h1 u hu)
  have hs:(a.eval z).cells.size=i.size:=by have:=rz.1.1;simp at this;omega
  split at he
  ·rename_i id ak off e;rw[e]at r;split at he
   ·rename_i hver;split at he
    ·rename_i cs hc;split at he
     ·rename_i hle;obtain⟨rfl,rfl⟩:=bV he;obtain⟨hN,_⟩:=r.oI (show(S.gh L).V id=ak from hver)
      obtain⟨b,hv,hL⟩:=h.pH r hver hc;obtain⟨b',cur,T,hL',hh,hr,hE⟩:=h.o6 hN hc;rw[hL]at hL';simp only[Value.pointer.injEq,Qf,Addr.mk.injEq]at hL';obtain⟨rfl,_⟩:=hL';have hcl:cur.size=cs.length:=by have:=hr.1;simpa using this
      have hrun:=Gm (P:=P) ho hi hv hh hs (by omega) rz.2
      obtain⟨h2,hs2,hg⟩:=h.qA (w':=w.setRow b (cur.toList.take off++(a.eval z).cells.toList++cur.toList.drop (off+i.size)).toArray) hN ⟨ak,.box (gW cs off (z'.val S).cells)⟩ (L id) (.inl ⟨hver.symm,rfl,by rw[hc];rfl⟩) rfl rfl rfl (by simp)
       (fun k hk hne=>setRow_other w b k _ (fun ek=>hne (by rw[hc];rfl) (by rw[hL,ek];rfl)))
       (fun k _ hk=> .inl ⟨by rw[hc];rfl,hk⟩)
       (fun hs2 hg=>⟨b,_,T,hL,setRow_heap w b cur _ T _ hh,hE,by
        have:=(hr.gW rz.1 off).mono hs2 hg
        simpa[hs]using this⟩)
      exact⟨_,_,_,undef,hrun,.inr ⟨rfl,rfl⟩,.undef,h2⟩
     ·cases he
    ·cases he
   ·cases he
  ·rename_i id ak k j off e;rw[e]at r;have rz1:=rz.1.nz;have hl1:((z'.val S).cells.map nz).length=i.size:=by simpa using hl
   split at he
   ·rename_i hver;split at he
    ·rename_i e0 k' es hc;split at he
     ·rename_i hk;subst hk;split at he
      ·rename_i c hcj;split at he
       ·rename_i hle;obtain⟨rfl,rfl⟩:=bV he;obtain⟨hN,hv⟩:=r.Kx (show(S.gh L).V id=ak from hver)
        obtain⟨vs,hown,hk,hr⟩:=h.jt hN hc;have hj:j<es.length:=(Qw.1 hcj).1;rcases hown.2 with⟨hL,h0⟩|⟨g,cap,cur,hL,hb1,hh,hnc,hcm,hcs,htake⟩
        ·omega
        rw[show(S.gh L).L id=L id from rfl,hL]at hv
        simp only[cW,Qe]at hv;have hck:c.length=k:=hk c (Q7 hcj)
        have hjk:j*k+k<=es.length*k:=by
         have:=Qq62 k (show j+1<=es.length by omega)
         rw[Qq72]at this;omega
        have hvl:vs.length=es.length*k:=hown.1;have hcapk:es.length*k<=cap*k:=Qq62 _ hnc;have hrun:=Gm (P:=P) ho hi hv hh hs (by omega) rz.2
        have hsl:(gW c off ((z'.val S).cells.map nz)).length=k:=by simp[gW,hl1];omega
        have hk2:∀u∈es.set j (gW c off ((z'.val S).cells.map nz)),u.length=k:=by
         intro u hu;rcases List.mem_or_eq_of_mem_set hu with hu|hu
         ·exact hk u hu
         ·rw[hu,hsl]
        have hz2:((z'.val S).cells.map nz).length=(a.eval z).cells.toList.length:=rz1.1.symm
        have hfl:(es.set j (gW c off ((z'.val S).cells.map nz))).flatten=gW es.flatten (j*k+off) ((z'.val S).cells.map nz):=by
         rw[Dr es k j _ hk hsl hj,hsl];unfold gW;rw[hl1];exact V8 es.flatten c ((z'.val S).cells.map nz) k (j*k) off i.size hck (by rw[lO es k hk];exact hjk) hl1 (by omega) (xV es k j c hk hcj)
        have hset:(w.setRow g (cur.toList.take (j*k+off)++(a.eval z).cells.toList++cur.toList.drop (j*k+off+i.size)).toArray).ownsRow (gI E (L id)) e0 k (L id) (es.set j (gW c off ((z'.val S).cells.map nz))).length (vs.take (j*k+off)++(a.eval z).cells.toList++vs.drop (j*k+off+i.size)):=by
         refine⟨by simp[hvl,hs];omega,.inr ⟨g,cap,_,by rw[hL];simp,hb1,setRow_heap w g cur _ e0 _ hh,by simpa using hnc,hcm,by simp[hcs,hs];omega,?_⟩⟩
         simp only[QX];rw[<-htake];simpa using I9 cur.toList (a.eval z).cells.toList (j*k+off) i.size (es.length*k) (by simpa using hs) (by omega) (by simp[hcs];omega)
        obtain⟨h2,hs2,hg⟩:=h.qA (w':=w.setRow g (cur.toList.take (j*k+off)++(a.eval z).cells.toList++cur.toList.drop (j*k+off+i.size)).toArray) hN ⟨ak,.row e0 k (es.set j (gW c off ((z'.val S).cells.map nz)))⟩ (L id) (.inl ⟨hver.symm,rfl,by rw[hc];rfl⟩) rfl rfl rfl (by simp)
         (fun q hq hne=>setRow_other w g q _ (fun ek=>hne (by rw[hc];rfl) (by rw[hL,ek];rfl)))
         (fun q _ hq=> .inl ⟨by rw[hc];rfl,hq⟩)
         (fun hs2 hg=>⟨_,hset,hk2,by
          rw[hfl];have:=(hr.gW rz1 (j*k+off)).mono hs2 hg
          simpa[hs]using this⟩)
        exact⟨_,_,_,undef,hrun,.inr ⟨rfl,rfl⟩,.undef,h2⟩
       ·cases he
      ·cases he
     ·cases he
    ·cases he
   ·cases he
  ·cases he
 ·cases he
end
end
section
open Go.RowKit
section
variable {P : Program} {E : En} {S : St} {a : Act} {w : World} {L : Nat -> Value} {o : Oper} {x : PV} {wr : Option (Nat × fE)} {Γ : mR} {nid : Nat}
theorem Bq(h:Rel E S a w L){y:Option Operand}{y':Option bn}(hy:y.mapM bd=some y'){d n:Int}(hn:sV S y' d=some n):
  (y=none/\n=d)\/∃z k,y=some z/\a.eval z= .int k n:=by
 cases y with
 |none=>
  simp at hy;subst hy;simp only[sV,Qf]at hn;exact .inl ⟨rfl,hn.symm⟩
 |some z=>
  simp only[Option.mapM_some,Option.map_eq_map,Qb]at hy;obtain⟨z',hz,rfl⟩:=hy;have r:=h.fj hz;simp only[sV]at hn;split at hn
  ·rename_i k m e;rw[e]at r;injection hn with hn
   subst hn;exact .inr ⟨z,k,rfl,r.eV⟩
  ·cases hn
theorem qN{α:Type}(k:Nat):∀(m:Nat) (fs:List (List α)),(∀u∈fs,u.length=k)->(fs.take m).flatten=fs.flatten.take (m*k)
 |0,fs,_=>by simp
 |m+1,[],_=>by simp
 |m+1,u::us,hf=>by
  have hu:u.length=k:=hf u (by simp)
  simp only[List.take_succ_cons,List.flatten_cons,qN k m us (fun q hq=>hf q (by simp[hq]))]
  rw[Qq72,Nat.one_mul,Nat.add_comm,<-hu,List.take_length_add_append]
theorem xU{α:Type}(k:Nat):∀(m:Nat) (fs:List (List α)),(∀u∈fs,u.length=k)->(fs.drop m).flatten=fs.flatten.drop (m*k)
 |0,fs,_=>by simp
 |m+1,[],_=>by simp
 |m+1,u::us,hf=>by
  have hu:u.length=k:=hf u (by simp)
  simp only[List.drop_succ_cons,List.flatten_cons,xU k m us (fun q hq=>hf q (by simp[hq]))]
  rw[Qq72,Nat.one_mul,Nat.add_comm,<-hu,List.drop_length_add_append]
theorem HV{t e:TypeId}{y:Operand}{lo hi:Option Operand}{i:TypeInfo}{ad:Option Addr}{n c:Nat}{l h:Int}(ho:o.op= .slice t y lo hi none)(ht:P.underlying t=some (.slice e))(hi':P.info? e=some i)
  (hv:a.eval y= .slice ad n c) (hlo:(lo=none/\l=0)\/∃z k,lo=some z/\a.eval z= .int k l) (hhi:(hi=none/\h=n)\/∃z k,hi=some z/\a.eval z= .int k h) (h0:0<=l) (h1:l<=h) (h2:h<=n) (h3:n<=c):
  (execOp a.eval o).run P w= .ok (.value (.slice (if c=l.toNat then ad else ad.map (·.add (l.toNat*i.size))) (h.toNat - l.toNat) (c - l.toNat))) w:=by
 have e1:0<=h:=by omega
 have e2:h<=(c:Int):=by omega
 have e3:l<=((h.toNat:Nat):Int):=by omega
 rcases hlo with⟨rfl,rfl⟩|⟨z,k,rfl,hz⟩<;>rcases hhi with⟨rfl,rfl⟩|⟨z2,k2,rfl,hz2⟩<;>
  simp[execOp,Instr.sliceAt,Instr.slice,run_underlying ht,Instr.sliceBounds,Instr.sliceBound,asIntOf,sizeOf,typeInfo, *]<;>omega
theorem agG(h:Rel E S a w L){t e:TypeId}{y:Operand}{lo hi:Option Operand}{y':bn}{lo' hi':Option bn}{i:TypeInfo}(ho:o.op= .slice t y lo hi none)(ht:P.underlying t=some (.slice e))(hi0:P.info? e=some i)
  (hy:bd y=some y') (hlo:lo.mapM bd=some lo') (hhi:hi.mapM bd=some hi') (he:exec Γ nid S (.Gc i.size y' lo' hi')=some (x,wr)):Good P E S a w o x wr:=by
 have r:=h.fj hy;simp only[exec]at he;split at he
 ·rename_i es e0;rw[e0]at r;split at he
  ·rename_i hall;have hall':∀u∈es,u.length=i.size:=fun u hu=>by have:=QH.1 hall u hu;simpa using this
   split at he
   ·rename_i l hh el eh;split at he
    ·rename_i hb;obtain⟨hb0,hb1,hb2⟩:=hb;obtain⟨rfl,rfl⟩:=bV he;have hl:=Bq h hlo (d:=0) (n:=l) (by unfold sV;exact el)
     have hh':=Bq h hhi (d:=(es.length:Int)) (n:=hh) (by unfold sV;exact eh)
     have hlen:((es.take hh.toNat).drop l.toNat).length=hh.toNat - l.toNat:=by simp;omega
     rcases r.BA with⟨hv,h0⟩|⟨ad,c,k,vs,hv,hk,hr,hc,hn,hm⟩
     ·subst h0;refine Good.pure h (HV (n:=0) ho ht hi0 hv hl (by simpa using hh') hb0 hb1 (by simpa using hb2) (QI _)) ?_
      have e1:hh=0:=by simp at hb2;omega
      have e2:l=0:=by omega
      subst e1 e2;simpa using bm.slnil
     ·refine Good.pure h (HV ho ht hi0 hv hl hh' hb0 hb1 hb2 hn) ?_;rw[<-hlen];have hkk:∀u∈(es.take hh.toNat).drop l.toNat,u.length=i.size:=fun u hu=>hall' u (Q0 (Q1 hu))
      have hfl:((es.take hh.toNat).drop l.toNat).flatten=(es.flatten.take (hh.toNat*i.size)).drop (l.toNat*i.size):=by
       have t1:∀(m:Nat) (fs:List (List PV)),(∀u∈fs,u.length=i.size)->(fs.take m).flatten=fs.flatten.take (m*i.size):=by
        intro m
        induction m with
        |zero=>intro fs _;simp
        |succ m ih=>
         intro fs hf
         cases fs with
         |nil=>simp
         |cons u us=>
          have hu:u.length=i.size:=hf u (by simp)
          simp only[List.take_succ_cons,List.flatten_cons,ih us (fun q hq=>hf q (by simp[hq]))]
          rw[Qq72,Nat.one_mul,Nat.add_comm,<-hu,List.take_length_add_append]
       have t2:∀(m:Nat) (fs:List (List PV)),(∀u∈fs,u.length=i.size)->(fs.drop m).flatten=fs.flatten.drop (m*i.size):=by
        intro m
        induction m with
        |zero=>intro fs _;simp
        |succ m ih=>
         intro fs hf
         cases fs with
         |nil=>simp
         |cons u us=>
          have hu:u.length=i.size:=hf u (by simp)
          simp only[List.drop_succ_cons,List.flatten_cons,ih us (fun q hq=>hf q (by simp[hq]))]
          rw[Qq72,Nat.one_mul,Nat.add_comm,<-hu,List.drop_length_add_append]
       rw[t2 _ _ (fun u hu=>hall' u (Q0 hu)),t1 _ _ hall']
      have hr2:=(hr.take (hh.toNat*i.size)).drop (l.toNat*i.size);rw[<-hfl]at hr2
      by_cases hcl:c=l.toNat
      ·have hnil:(es.take hh.toNat).drop l.toNat=[]:=Qq66 (by rw[hlen];omega)
       rw[Qr hcl,hnil];exact .sl [] ad _ i.size [] (by simp) (by simp) (fun j u hu=>by simp at hu) (fun j p u hp=>by simp at hp) (QS _) (by omega)
      ·rw[Qs hcl];simp only[Qe];refine .sl _ _ _ i.size _ hkk hr2.1 (fun j u hu=> ?_) hr2.2 (by rw[hlen];omega) (by omega)
       rw[add_add,HA];have h4:=gk hu;rw[Qq67]at h4;split at h4
       ·exact hc _ u h4
       ·cases h4
    ·cases he
   ·cases he
  ·cases he
 ·rename_i id ak e0;rw[e0]at r;split at he
  ·rename_i hver;split at he
   ·rename_i e1 k' es hcc;split at he
    ·rename_i hkk;subst hkk;split at he
     ·rename_i l hh el eh;split at he
      ·rename_i hb;obtain⟨hb0,hb1,hb2⟩:=hb;obtain⟨rfl,rfl⟩:=bV he;obtain⟨hN,hv⟩:=r.mj (show(S.gh L).V id=ak from hver)
       obtain⟨vs,hown,hk,hr⟩:=h.jt hN hcc;have hl:=Bq h hlo (d:=0) (n:=l) el;have hh':=Bq h hhi (d:=(es.length:Int)) (n:=hh) eh
       have hL:∃ad c,L id= .slice ad es.length c/\es.length<=c:=by
        rcases hown.2 with⟨hL,h0⟩|⟨g,cap,cur,hL,_,_,hnc,_⟩
        ·exact⟨none,0,by rw[hL,h0],by omega⟩
        ·exact⟨_,cap,hL,hnc⟩
       obtain⟨ad,c,hL,hc⟩:=hL;rw[show(S.gh L).L id=L id from rfl,hL]at hv
       refine Good.pure h (HV ho ht hi0 hv hl hh' hb0 hb1 hb2 hc) ?_;refine .view _ _ _ _ _ _ _ hN (Nat.le_of_eq hver.symm) (fun _=>⟨ad,es.length,c,hL,by omega,hc,rfl,?_⟩)
       by_cases h0:c=l.toNat
       ·rw[Qr h0]
        by_cases h1:l.toNat=0
        ·right;rw[h1];cases ad<;>simp[Addr.add]
        ·left;exact⟨by omega,h1,fun e=>e⟩
       ·rw[Qs h0];right;rfl
      ·cases he
     ·cases he
    ·cases he
   ·cases he
  ·cases he
 ·rename_i id ak k0 lo0 n0 e0;rw[e0]at r;split at he
  ·rename_i hver;split at he
   ·rename_i e1 k' es hcc;split at he
    ·rename_i hkk;obtain⟨hk1,hk2⟩:=hkk;subst hk2;split at he
     ·rename_i l hh el eh;split at he
      ·rename_i hb;obtain⟨hb0,hb1,hb2⟩:=hb;obtain⟨rfl,rfl⟩:=bV he;obtain⟨hN,ad,c,hv,a0,m0,c0,hL,q1,q2,q3,q4⟩:=r.yJ (show(S.gh L).V id=ak from hver)
       have hl:=Bq h hlo (d:=0) (n:=l) el;have hh':=Bq h hhi (d:=(n0:Int)) (n:=hh) eh;refine Good.pure h (HV ho ht hi0 hv hl hh' hb0 hb1 hb2 (by omega)) ?_
       refine .view _ _ _ _ _ _ _ hN (Nat.le_of_eq hver.symm) (fun _=>⟨a0,m0,c0,hL,by omega,q2,by omega,?_⟩)
       by_cases h0:c=l.toNat
       ·rw[Qr h0]
        by_cases h1:lo0+l.toNat=0
        ·right;rcases q4 with q4|q4
         ·omega
         ·rw[q4];have e1:lo0=0:=by omega
          have e2:l.toNat=0:=by omega
          rw[e1,e2]
        ·left;refine⟨by omega,h1,fun e=> ?_⟩
         rcases q4 with q4|q4
         ·exact q4.2.2 e
         ·rw[q4]at e;cases a0<;>first|rfl|cases e
       ·rw[Qs h0];rcases q4 with q4|q4
        ·left;refine⟨by omega,by omega,fun e=>q4.2.2 ?_⟩
         cases ad<;>first|rfl|cases e
        ·right;rw[q4];cases a0<;>simp[add_add,Qq72]
      ·cases he
     ·cases he
    ·cases he
   ·cases he
  ·cases he
 ·cases he
theorem ID{base:Nat}{t ty e:TypeId}{i:TypeInfo}{size:Nat}(ht:P.underlying t=some (.slice e))(hi:P.info? e=some i)
  {v:Value} {n:Nat} {xs:List Value} (hown:w.ownsRow base e size v n xs) (c:Nat):(Builtin.append_ #[t,t] ty #[v,.slice none 0 c]).run P w= .ok v w:=by
 rcases hown.2 with⟨rfl,rfl⟩|⟨g,cap,cur,rfl,_,_,hnc,_⟩
 ·simp[Builtin.append_,run_underlying ht,sizeOf,typeInfo,hi,Builtin.lenOf,Builtin.firstCells]
 ·simp[Builtin.append_,run_underlying ht,sizeOf,typeInfo,hi,Builtin.lenOf,Builtin.firstCells,hnc,storeCells]
theorem Rel.Dt(h:Rel E S a w L){y:PV}{v:Value}{es:List (List PV)}(r:bm w (br E S L) (S.gh L) y v)(he:iY S y=some es):
  (v= .slice none 0 0/\es=[])\/∃(ad:Addr) (c:Nat) (vs:List Value),v= .slice (some ad) es.length c/\bg w (br E S L) (S.gh L) es.flatten vs/\(∀(i:Nat) (u:Value),vs[i]?=some u->w.cell? (ad.add i)=some u):=by
 unfold iY at he;split at he
 ·injection he with he;subst he;exact .inl ⟨r.rD,rfl⟩
 ·injection he with he;subst he
  rcases r.BA with⟨hv,h0⟩|⟨ad,c,k,vs,hv,hk,hr,hc,_⟩
  ·exact .inl ⟨hv,h0⟩
  ·exact .inr ⟨ad,c,vs,hv,hr.mono (dZ.of fun _ hm=>hm) (dX.le _),fun i u hu=>(hc i u hu).1⟩
 ·rename_i id ak;split at he
  ·rename_i hver;split at he
   ·rename_i hc;injection he with he;subst he
    obtain⟨hN,hv⟩:=r.mj (show(S.gh L).V id=ak from hver)
    obtain⟨vs,hown,hk,hr⟩:=h.jt hN hc;rcases hown.2 with⟨hL,h0⟩|⟨g,cap,cur,hL,_,hh,_,_,_,htake⟩
    ·exact .inl ⟨by rw[hv];exact hL,Qq66 h0⟩
    ·refine .inr ⟨⟨g,0,none⟩,cap,vs,by rw[hv];exact hL,hr,fun i u hu=> ?_⟩
     exact hown.cells (g:=g) (by rw[hL];rfl) i u hu
   ·cases he
  ·cases he
 ·rename_i id ak k lo n;split at he
  ·rename_i hver;split at he
   ·rename_i e1 k' es0 hc;split at he
    ·rename_i hb;subst hb;injection he with he;subst he
     obtain⟨hN,ad,c,hv,hat⟩:=r.yJ (show(S.gh L).V id=ak from hver)
     have hb:=h.HO hN hc hat;obtain⟨a0,m0,c0,hL,q1,q2,q3,q4⟩:=hat;obtain⟨vs,hown,hk,hr⟩:=h.jt hN hc;have hL:L id= .slice a0 m0 c0:=hL;have hlen:((es0.drop lo).take n).length=n:=by simp;omega
     rcases hown.2 with⟨hL',h0⟩|⟨g,cap,cur,hL',_,hh,_,_,_,htake⟩
     ·have:es0=[]:=Qq66 h0;subst this;rw[hL']at hL;injection hL with e1 e2 e3
      subst e1 e2 e3;left;have hn0:n=0:=by omega
      have hl0:lo=0:=by omega
      subst hn0 hl0;rcases q4 with q4|q4
      ·exact absurd rfl q4.2.1
      ·subst q4;rw[hv,q3];exact⟨by simp,by simp⟩
     ·rw[hL']at hL;injection hL with e1 e2 e3
      subst e1 e2 e3
      have hfl:((es0.drop lo).take n).flatten=(es0.flatten.drop (lo*k')).take (n*k'):=by
       rw[qN k' n _ (fun u hu=>hk u (Q1 hu)),xU k' lo _ hk]
      have hr2:=(hr.drop (lo*k')).take (n*k');rw[<-hfl]at hr2
      by_cases hn0:n=0
      ·subst hn0
       cases ad with
       |none=>
        rcases q4 with q4|q4
        ·cases q4.2.2 rfl
        ·cases q4
       |some ad=>
        right;exact⟨ad,c,[],by rw[hv];simp,by simpa using bg.nil,fun i u hu=>by simp at hu⟩
      ·rcases q4 with q4|q4
       ·omega
       ·right;refine⟨⟨g,lo*k',none⟩,c,_,by rw[hv,hlen,q4];simp[add_mid],hr2,fun i u hu=> ?_⟩
        rw[add_mid];refine o0 hh ?_;rw[Qq67]at hu;split at hu
        ·have hu:=gk hu;rw[<-htake,Qq67]at hu;split at hu
         ·exact hu
         ·cases hu
        ·cases hu
    ·cases he
   ·cases he
  ·cases he
 ·cases he
theorem l6{v:Value}{ad:Option Addr}{n c:Nat}(h:v= .slice ad n c):v.ownBlock=cW v:=by subst h;cases ad<;>rfl
theorem B8{P:Program}(w:World)(base:Nat)(t ty e:TypeId)(i:TypeInfo)(z:Value)(size bytes:Nat)(ht:P.underlying t=some (.slice e))(hi:P.info? e=some i)(hz:i.zero=some z)
  (hsize:i.size=size) (hby:i.bytes=bytes) (hsz:0<size)
  (v:Value) (n:Nat) (xs:List Value) (hown:w.ownsRow base e size v n xs)
  (a:Addr) (m c:Nat) (news:List Value) (hl:news.length=m*size) (hnews:∀j u,news[j]?=some u->w.cell? (a.add j)=some u) (h1:∀u∈news,u.oneCell'=true)
  (h63:n+m<=maxLen) (hbytes:(n+m)*bytes<=140737488355328) {v':Value} {w':World} (hrun:(Builtin.append_ #[t,t] ty #[v,.slice (some a) m c]).run P w= .ok v' w'):w.drawn<=w'.drawn:=by
 subst hsize;subst hby;have hsmall:n+m<=9223372036854775807:=by simp only[maxLen]at h63;omega
 have fin:∀{u:Value} {W:World},(Builtin.append_ #[t,t] ty #[v,.slice (some a) m c]).run P w= .ok u W->w.drawn<=W.drawn->w.drawn<=w'.drawn:=fun h hd=>by
  rw[h]at hrun;injection hrun with _ h2
  rw[<-h2];exact hd
 rcases hown.2 with⟨rfl,rfl⟩|⟨g,cap,cur,rfl,hbg,hg,hnc,hcm,hcs,htake⟩
 ·by_cases hm:m=0
  ·subst hm;have hn:news=[]:=Qq66 (by simpa using hl)
   refine fin (u:= .slice none 0 0) (W:=w) ?_ (QI _);simp[Builtin.append_,run_underlying ht,sizeOf,typeInfo,hi,Builtin.lenOf,Builtin.firstCells,loadCells,loadCellsFrom]
  ·exact fin (run_append_nil (P:=P) w t ty e i z ht hi hz a m c news hl hnews (by omega) (by omega) (by have hb:=hbytes;simp only[Nat.zero_add]at hb;omega)) (Nat.le_succ _)
 ·by_cases hroom:n+m<=cap
  ·have hfit:n*i.size+news.length<=cur.size:=by rw[hl,hcs,<-Qq72];exact Qq62 _ hroom
   exact fin (run_append_room (P:=P) w t ty e i ht hi g n cap cur hg a m c news hl hnews h1 hroom hfit) (QI _)
  ·have holds:∀j u,xs[j]?=some u->w.cell? ((⟨g,0,none⟩:Addr).add j)=some u:=hown.cells (g:=g) rfl;exact fin (run_append_grow (P:=P) w t ty e i z ht hi hz ⟨g,0,none⟩ n cap xs hown.1 holds a m c news hl hnews (by omega) (by omega) (growslice_fits (by omega) hbytes)) (Nat.le_succ _)
theorem aca(h:Rel E S a w L)(hn:nid<S.N){t e:TypeId}{y z:Operand}{y' z':bn}{i:TypeInfo}{zv:Value}(ho:o.op= .call {callee:= .builtin .append,args:=#[y,z],argTypes:=#[t,t]})(ht:P.underlying t=some (.slice e))(hi:P.info? e=some i)
  (hzv:i.zero=some zv) (hzs:zv.cells.size=i.size) (hsz:0<i.size) (hy:bd y=some y') (hz:bd z=some z') (he:exec Γ nid S (.cY false e i.size i.bytes y' z')=some (x,wr)):Good P E S a w o x wr:=by
 have ry:=h.fj hy;have rz:=h.fj hz
 have hexec:∀(r:Result Value),(Builtin.append_ #[t,t] o.type #[a.eval y,a.eval z]).run P w=r->(execOp a.eval o).run P w=r.andThen fun v w'=> .ok (.value v) w':=by
  intro r hr;simp[execOp,ho,resolve,invoke,builtin,hr]
 simp only[exec,HD]at he;split at he
 ·rename_i news hnews;split at he
  ·rename_i hall;have hall':∀u∈news,u.length=i.size/\u.all PV.one=true:=fun u hu=>by have:=QH.1 hall u hu;simpa using this
   have hnl:news.flatten.length=news.length*i.size:=lO news i.size (fun u hu=>(hall' u hu).1)
   have hone:∀{vs:List Value},bg w (br E S L) (S.gh L) news.flatten vs->∀u∈vs,u.oneCell'=true:=by
    intro vs hr u hu;obtain⟨q,hq,rfl⟩:=List.mem_iff_getElem.1 hu;have hx:q<news.flatten.length:=by rw[<-hr.1];exact hq
    have hm:news.flatten[q]∈news.flatten:=QZ hx;obtain⟨el,hel,hmem⟩:=List.mem_flatten.1 hm;exact((hr.2 q _ _ (Qv hx) (Qv hq)).one (QH.1 (hall' el hel).2 _ hmem)).1
   have main:∀(id0:Nat) (hid:id0<S.N) (es:List (List PV)) (ver':Nat) (v:Value) (vs:List Value),a.eval y=v->w.ownsRow (gI E v) e i.size v es.length vs->bg w (br E S L) (S.gh L) es.flatten vs->
     (∀u∈es,u.length=i.size)->(S.H id0).ak<ver'->(∀b,v.ownBlock=some b->(S.H id0).c.live=true/\cW (L id0)=some b)->es.length+news.length<=maxLen->(es.length+news.length)*i.bytes<=140737488355328->
     Good P E S a w o (.own id0 ver') (some (id0,⟨ver',.row e i.size (es++news)⟩)):=by
    intro id0 hid es ver' v vs hv hown hr hk hver hblk hmax hby
    have hk2:∀u∈es++news,u.length=i.size:=fun u hu=>by
     rcases Qz.1 hu with hu|hu
     ·exact hk u hu
     ·exact(hall' u hu).1
    have hrun:∃v' w' us,(Builtin.append_ #[t,t] o.type #[a.eval y,a.eval z]).run P w= .ok v' w'/\w'.ownsRow (gI E v) e i.size v' (es.length+news.length) (vs++us)/\w.grownBy w' v.ownBlock/\
      (v'.ownBlock=v.ownBlock\/v'.ownBlock=some w.heap.size)/\bg w (br E S L) (S.gh L) news.flatten us/\w.drawn<=w'.drawn:=by
     rcases h.Dt rz hnews with⟨hvz,hnil⟩|⟨ad,c,us,hvz,hrz,hcz⟩
     ·subst hnil;refine⟨v,w,[],by rw[hv,hvz];exact ID ht hi hown 0,by simpa using hown,World.grownBy.refl w _,.inl rfl,bg.nil,QI _⟩
     ·have hus:us.length=news.length*i.size:=by rw[hrz.1,hnl]
      obtain⟨v',w',h1,h2,h3,_,h5⟩:=run_append_own_at (P:=P) w (gI E v) t o.type e i zv i.size i.bytes ht hi hzv rfl rfl hzs hsz v es.length vs hown ad news.length c us hus hcz (hone hrz) hmax hby (QK (Lc E v) h.fr.size);exact⟨v',w',us,by rw[hv,hvz];exact h1,h2,h3,h5,hrz,B8 w (gI E v) t o.type e i zv i.size i.bytes ht hi hzv rfl rfl hsz v es.length vs hown ad news.length c us hus hcz (hone hrz) hmax hby h1⟩
    obtain⟨v',w',us,hr1,hown',hgr,hat,hru,hdrw⟩:=hrun
    have hv':∃ad n c,v'= .slice ad n c:=by
     rcases hown'.2 with⟨rfl,_⟩|⟨g,cap,cur,rfl,_⟩
     ·exact⟨_,_,_,rfl⟩
     ·exact⟨_,_,_,rfl⟩
    obtain⟨ad',n',c',hv'⟩:=hv'
    have hvb:∃ad n c,v= .slice ad n c:=by
     rcases hown.2 with⟨rfl,_⟩|⟨g,cap,cur,rfl,_⟩
     ·exact⟨_,_,_,rfl⟩
     ·exact⟨_,_,_,rfl⟩
    obtain⟨ad0,n0,c0,hv0⟩:=hvb
    have hown':w'.ownsRow (gI E v') e i.size v' (es.length+news.length) (vs++us):=by
     rcases hat with hat|hat
     ·rw[AD (v:=v') (v':=v) (by rw[<-l6 hv',<-l6 hv0,hat])]
      exact hown'
     ·refine⟨hown'.1,?_⟩;rcases hown'.2 with hnil|⟨g,cap,cur,e1,e2,e3⟩
      ·exact .inl hnil
      ·rw[l6 hv']at hat;have hg:g=w.heap.size:=by rw[e1]at hat;simpa[cW]using hat
       refine .inr ⟨g,cap,cur,e1,?_,e3⟩;rw[Ja hat h.fr.size,hg];exact h.fr.size
    obtain⟨h2,hs2,hg2⟩:=h.qA (w':=w') (hdr:=DL.of hdrw) hid ⟨ver',.row e i.size (es++news)⟩ v' (.inr hver) hgr.os hgr.tape hgr.output hgr.size
     (fun b hb hne=>hgr.block b hb (fun eb=>by
      obtain⟨q1,q2⟩:=hblk b eb.symm
      exact hne q1 q2))
     (fun b _ hb=>by
      rw[<-l6 hv']at hb;rcases hat with hat|hat
      ·rw[hat]at hb;exact .inl (hblk b hb)
      ·rw[hat]at hb;injection hb with hb
       exact .inr (by omega))
     (fun hs2 hg2=>⟨vs++us,by simpa using hown',hk2,by simp only[List.flatten_append];exact(hr.append hru).mono hs2 hg2⟩)
    refine⟨_,w',_,v',by rw[hexec _ hr1];rfl,.inl rfl,?_,h2⟩
    subst hv';exact .own _ _ _ _ _ hid (by simp[St.gh,St.eO,bZ]) (fun _=>by simp[St.gh,St.eO,bZ])
   split at he
   ·rename_i ey;rw[ey]at ry;split at he
    ·rename_i hb;obtain⟨rfl,rfl⟩:=bV he;have:=main nid hn [] ((S.H nid).ak+1) (.slice none 0 0) [] ry.rD (World.ownsRow_nil w _ _ _) bg.nil (by simp) (Nat.lt_succ_self _) (fun b hb=>by simp[Value.ownBlock]at hb) (by simpa using hb.2) (by simpa using hb.1)
     simpa using this
    ·cases he
   ·rename_i id ak ey;rw[ey]at ry;split at he
    ·rename_i hver;split at he
     ·rename_i e' k' es hc;split at he
      ·rename_i hb;obtain⟨rfl,rfl,hby,hmax⟩:=hb;obtain⟨rfl,rfl⟩:=bV he;obtain⟨hN,hv⟩:=ry.mj (show(S.gh L).V id=ak from hver)
       obtain⟨vs,hown,hk,hr⟩:=h.jt hN hc
       have hLs:∃ad n c,L id= .slice ad n c:=by
        rcases hown.2 with⟨hL,_⟩|⟨g,cap,cur,hL,_⟩
        ·exact⟨_,_,_,hL⟩
        ·exact⟨_,_,_,hL⟩
       obtain⟨ad0,n0,c0,hL0⟩:=hLs;exact main id hN es (ak+1) (L id) vs hv hown hr hk (by omega) (fun b hb=>⟨by rw[hc];rfl,by rw[l6 hL0]at hb;exact hb⟩) hmax hby
      ·cases he
     ·cases he
    ·cases he
   ·cases he
  ·cases he
 ·cases he
theorem acr(z:Array Value)(n:Nat):(Builtin.zeroCells z n).toList=(List.replicate n z.toList).flatten:=by
 unfold Builtin.zeroCells
 by_cases hz:0<z.size
 ·exact GM z hz n
 ·have h0:z.size=0:=by omega
  have hz:z=#[]:=Array.eq_empty_of_size_eq_zero h0;subst hz;simp
theorem sq{P:Program}(w:World)(dT sT ty elem:TypeId)(g o dLen dCap:Nat)(a:Addr)(sLen sCap:Nat)(cur:Array Value)(t:TypeId)(cs:List Value)(size n:Nat)
  (hu:P.underlying dT=some (.slice elem)) (hs:(P.info? elem).map (·.size)=some size)
  (hg:w.heap[g]?=some (.cells cur t (0,0))) (hn:n=Nat.min sLen dLen) (hcl:cs.length=n*size)
  (hsrc:∀(j:Nat) (v:Value),cs[j]?=some v->w.cell? (a.add j)=some v) (hfit:o+cs.length<=cur.size) (h1:∀v∈cs,v.oneCell'=true):
  (Builtin.copy_ #[dT,sT] ty #[.slice (some ⟨g,o,none⟩) dLen dCap,.slice (some a) sLen sCap]).run P w=
   .ok (goInt n) (w.setRow g (cur.toList.take o++cs++cur.toList.drop (o+cs.length)).toArray):=by
 have hl:=run_loadCells_list (P:=P) w a cs hsrc;have hst:=run_storeCells_at P g o t cs 0 cur w hg (by simpa using hfit) h1
 rw[hcl]at hl
 cases hq:P.info? elem with
 |none=>simp[hq]at hs
 |some i=>
  have hi:i.size=size:=by simpa[hq]using hs
  simp[Builtin.copy_,run_underlying hu,Builtin.lenOf,Builtin.firstCells,sizeOf,typeInfo,hq,hi,<-hn,hl,hst]
theorem Pj{P:Program}(w:World)(dT sT ty elem:TypeId)(d a:Option Addr)(dLen dCap sLen sCap:Nat){i:TypeInfo}(hu:P.underlying dT=some (.slice elem))(hq:P.info? elem=some i)(hn:Nat.min sLen dLen=0):
  (Builtin.copy_ #[dT,sT] ty #[.slice d dLen dCap,.slice a sLen sCap]).run P w= .ok (goInt 0) w:=by
 have hl:∀(x:Addr),(loadCells x 0).run P w= .ok #[] w:=fun x=>by simpa using run_loadCells_list (P:=P) w x [] (by simp)
 cases d<;>cases a<;>simp[Builtin.copy_,run_underlying hu,Builtin.lenOf,Builtin.firstCells,sizeOf,typeInfo,hq,hn,storeCells,hl]
theorem agQ(h:Rel E S a w L){t e:TypeId}{y z:Operand}{y' z':bn}{i:TypeInfo}(ho:o.op= .call {callee:= .builtin .copy,args:=#[y,z],argTypes:=#[t,t]})(ht:P.underlying t=some (.slice e))(hi:P.info? e=some i)
  (hy:bd y=some y') (hz:bd z=some z') (he:exec Γ nid S (.JA e i.size y' z')=some (x,wr)):Good P E S a w o x wr:=by
 have ry:=h.fj hy;have rz:=h.fj hz;simp only[exec]at he;split at he
 ·cases he
 rename_i ys hys
 have main:∀(id ak:Nat) (es:List (List PV)) (lo n c:Nat) (ad:Option Addr),id<S.N->(S.H id).ak=ak->(S.H id).c= .row e i.size es->a.eval y= .slice ad n c->lo+n<=es.length->
   (n≠0->∃g m0 c0,L id= .slice (some ⟨g,0,none⟩) m0 c0/\ad=some ⟨g,lo*i.size,none⟩)->ys.all (fun u=>u.length==i.size&&u.all PV.one)=true->
   Good P E S a w o (.int .i64 (min n ys.length:Nat)) (some (id,⟨ak,.row e i.size (jL es lo n ys)⟩)):=by
  intro id ak es lo n c ad hN hver hc hv hlen hat hall;have hall':∀u∈ys,u.length=i.size/\u.all PV.one=true:=fun u hu=>by have:=QH.1 hall u hu;simpa using this
  obtain⟨vs,hown,hk,hr⟩:=h.jt hN hc
  have hexec:∀{w':World} {u:Value},(Builtin.copy_ #[t,t] o.type #[a.eval y,a.eval z]).run P w= .ok u w'->(execOp a.eval o).run P w= .ok (.value u) w':=by
   intro w' u hr;simp[execOp,ho,resolve,invoke,builtin,hr]
  have hsrc:=h.Dt rz hys
  by_cases hm:min n ys.length=0
  ·have hsame:jL es lo n ys=es:=by
    have h1:ys.take n=[]:=by
     rcases Nat.eq_zero_or_pos n with h0|h0
     ·rw[h0];rfl
     ·rw[Qq66 (l:=ys) (by omega)];simp
    rw[jL,h1,hm];simp
   rw[hsame,hm]
   obtain⟨h2,hs2,hg⟩:=h.qA (w':=w) hN ⟨ak,.row e i.size es⟩ (L id) (.inl ⟨hver.symm,rfl,by rw[hc];rfl⟩) rfl rfl rfl (QI _)
    (fun q hq _=>rfl) (fun q _ hq=> .inl ⟨by rw[hc];rfl,hq⟩) (fun hs2 hg=>⟨vs,hown,hk,hr.mono hs2 hg⟩)
   have hz':∃ad' c',a.eval z= .slice ad' ys.length c':=by
    rcases hsrc with⟨h1,h2⟩|⟨ad',c',us,h1,_⟩
    ·exact⟨none,0,by rw[h1,h2];rfl⟩
    ·exact⟨some ad',c',h1⟩
   obtain⟨ad',c',hz'⟩:=hz';refine⟨_,w,_,goInt 0,hexec ?_,.inl rfl,.int _ _,h2⟩;rw[hv,hz'];exact Pj w t t o.type e ad ad' n c ys.length c' ht hi (by show min ys.length n=0;omega)
  ·rcases hsrc with⟨h1,h2⟩|⟨ad',c',us,hvz,hrz,hcz⟩
   ·rw[h2]at hm;simp at hm
   obtain⟨g0,m0,c0,hL,rfl⟩:=hat (by omega)
   have hL0:=hL;rcases hown.2 with⟨hL',h0⟩|⟨g,cap,cur,hL',hb1,hh,hnc,hcm,hcs,htake⟩
   ·rw[hL']at hL;cases hL
   rw[hL']at hL;injection hL with e2 e3 e4
   injection e2 with e2
   injection e2 with e2
   subst e2;generalize hq:min n ys.length=m at hm ⊢;have hyl:us.length=ys.length*i.size:=by rw[hrz.1,lO ys i.size fun u hu=>(hall' u hu).1]
   have hcl':(us.take (m*i.size)).length=m*i.size:=by
    rw[List.length_take,hyl];exact Nat.min_eq_left (Qq62 _ (by omega))
   have hone':∀u∈us.take (m*i.size),u.oneCell'=true:=by
    intro u hu;obtain⟨q,hq,rfl⟩:=List.mem_iff_getElem.1 (Q0 hu);have hx:q<ys.flatten.length:=by rw[<-hrz.1];exact hq
    obtain⟨el,hel,hmem⟩:=List.mem_flatten.1 (QZ hx);exact((hrz.2 q _ _ (Qv hx) (Qv hq)).one (QH.1 (hall' el hel).2 _ hmem)).1
   have hmt:(ys.take n).length=m:=by rw[List.length_take];exact hq
   have hkz:∀u∈jL es lo n ys,u.length=i.size:=by
    intro u hu;simp only[jL,Qz]at hu;rcases hu with(hu|hu)|hu
    ·exact hk u (Q0 hu)
    ·exact(hall' u (Q0 hu)).1
    ·exact hk u (Q1 hu)
   have hlz:(jL es lo n ys).length=es.length:=by
    simp only[jL,QB,List.length_take,List.length_drop];omega
   have hfl:(jL es lo n ys).flatten=es.flatten.take (lo*i.size)++ys.flatten.take (m*i.size)++es.flatten.drop (lo*i.size+m*i.size):=by
    have h1:ys.take n=ys.take m:=by rw[<-hq,Nat.min_def];split<;>first|rfl|(rw[List.take_of_length_le (by omega),List.take_of_length_le (QI _)])
    rw[jL,hq,h1,List.flatten_append,List.flatten_append,qN i.size lo es hk,qN i.size m ys (fun u hu=>(hall' u hu).1),xU i.size (lo+m) es hk,Qq72]
   have hcl:lo*i.size+m*i.size<=cur.size:=by
    rw[hcs,<-Qq72];exact Qq62 _ (by omega)
   have hrun:=sq (P:=P) w t t o.type e g (lo*i.size) n c ad' ys.length c' cur e (us.take (m*i.size)) i.size m ht (by rw[hi];rfl) hh (by show m=min ys.length n;omega) hcl'
    (fun j v hj=>hcz j v (by rw[Qq67]at hj;split at hj;exact hj;cases hj)) (by rw[hcl'];exact hcl) hone'
   rw[hcl']at hrun
   have hset:(w.setRow g (cur.toList.take (lo*i.size)++us.take (m*i.size)++cur.toList.drop (lo*i.size+m*i.size)).toArray).ownsRow (gI E (L id)) e i.size (L id) (jL es lo n ys).length (vs.take (lo*i.size)++us.take (m*i.size)++vs.drop (lo*i.size+m*i.size)):=by
    have hvl:vs.length=es.length*i.size:=hown.1;have hle:lo*i.size+m*i.size<=es.length*i.size:=by rw[<-Qq72];exact Qq62 _ (by omega)
    rw[hlz]
    refine⟨by simp only[QB,List.length_drop,hcl',hvl];rw[List.length_take,hvl];omega,.inr ⟨g,cap,_,hL',hb1,setRow_heap w g cur _ e _ hh,hnc,hcm,by
     rw[hcs]at hcl;simp only[List.size_toArray,QB,List.length_drop,Array.length_toList,hcl',hcs];rw[List.length_take,Array.length_toList,hcs]
     omega,?_⟩⟩
    rw[<-htake];have hce:es.length*i.size<=cur.size:=by rw[hcs];exact Qq62 _ hnc
    simpa using I9 cur.toList (us.take (m*i.size)) (lo*i.size) (m*i.size) (es.length*i.size) hcl' hle (by simpa using hce)
   obtain⟨h2,hs2,hg⟩:=h.qA (w':=w.setRow g (cur.toList.take (lo*i.size)++us.take (m*i.size)++cur.toList.drop (lo*i.size+m*i.size)).toArray) hN
    ⟨ak,.row e i.size (jL es lo n ys)⟩ (L id) (.inl ⟨hver.symm,rfl,by rw[hc];rfl⟩) rfl rfl rfl (by simp)
    (fun q hq hne=>setRow_other w g q _ (fun ek=>hne (by rw[hc];rfl) (by rw[hL',ek];rfl)))
    (fun q _ hq=> .inl ⟨by rw[hc];rfl,hq⟩)
    (fun hs2 hg=>⟨_,hset,hkz,by
     rw[hfl]
     exact(((hr.take (lo*i.size)).append (hrz.take (m*i.size))).append (hr.drop (lo*i.size+m*i.size))).mono hs2 hg⟩)
   exact⟨_,_,_,goInt m,hexec (by rw[hv,hvz];exact hrun),.inl rfl,.int _ _,h2⟩
 split at he
 ·rename_i id ak e0;rw[e0]at ry;split at he
  case isFalse=>cases he
  rename_i hver;split at he
  case h_2=>cases he
  rename_i e1 k' es hc;split at he
  case isFalse=>cases he
  rename_i hb;obtain⟨rfl,rfl,hall⟩:=hb;obtain⟨rfl,rfl⟩:=bV he;obtain⟨hN,hv⟩:=ry.mj (show(S.gh L).V id=ak from hver)
  have hv:a.eval y=L id:=hv;obtain⟨vs,hown,hk,hr⟩:=h.jt hN hc;rcases hown.2 with⟨hL,h0⟩|⟨g,cap,cur,hL,_⟩
  ·have:=main id ak es 0 es.length 0 none hN hver hc (by rw[hv,hL,h0]) (by omega) (fun h1=>absurd h0 h1) hall
   exact this
  ·have:=main id ak es 0 es.length cap _ hN hver hc (by rw[hv,hL]) (by omega) (fun _=>⟨g,_,_,hL,by simp⟩) hall
   exact this
 ·rename_i id ak k0 lo n e0;rw[e0]at ry;split at he
  case isFalse=>cases he
  rename_i hver;split at he
  case h_2=>cases he
  rename_i e1 k' es hc;split at he
  case isFalse=>cases he
  rename_i hb;obtain⟨rfl,rfl,rfl,hall⟩:=hb;obtain⟨rfl,rfl⟩:=bV he;obtain⟨hN,ad,c,hv,hat⟩:=ry.yJ (show(S.gh L).V id=ak from hver)
  have hle:=h.HO hN hc hat;obtain⟨a0,m0,c0,hL,q1,q2,q3,q4⟩:=hat;have hL:L id= .slice a0 m0 c0:=hL;refine main id ak es lo n c ad hN hver hc hv hle (fun h1=> ?_) hall
  obtain⟨vs,hown,hk,hr⟩:=h.jt hN hc;rcases hown.2 with⟨hL',h0⟩|⟨g,cap,cur,hL',_⟩
  ·omega
  ·rw[hL']at hL;injection hL with e2 e3 e4
   subst e2 e3 e4;rcases q4 with q4|q4
   ·omega
   ·exact⟨g,_,_,hL',by rw[q4];simp[add_mid]⟩
 ·cases he
theorem Vz(h:Rel E S a w L){neg:Bool}{t t2 e:TypeId}{y:Operand}{y':bn}(ho:o.op= .binOp (if neg then .neq else .eql) t y (.const (.slice none 0 0)) t2)(ht:P.underlying t=some (.slice e))(hy:bd y=some y')
  (he:exec Γ nid S (.xS neg y')=some (x,wr)):Good P E S a w o x wr:=by
 have r:=h.fj hy
 have key:∀(ad:Option Addr) (n c:Nat),a.eval y= .slice ad n c->(execOp a.eval o).run P w= .ok (.value (.bool (xor neg ad.isNone))) w:=by
  intro ad n c hv;have hc:a.eval (.const (.slice none 0 0))= .slice none 0 0:=rfl;have hq:=run_equal_slice_nil (P:=P) w t e ad n c ht;have hg:∀op,(eqGuard op t y (.const (.slice none 0 0)) (.slice ad n c) (.slice none 0 0)).run P w= .ok () w:=by intro op;cases op<;>simp[eqGuard]
  cases neg
  ·simp only[Qq,Qu]at ho;simp only[execOp,ho,hv,hc,Sem.run_bind,hg,Result.andThen_ok,binOp,hq,Sem.run_pure];simp
  ·simp only[Qt]at ho;simp only[execOp,ho,hv,hc,Sem.run_bind,hg,Result.andThen_ok,binOp,hq,Sem.run_pure];simp
 simp only[exec]at he;split at he
 ·rename_i e0;rw[e0]at r;obtain⟨rfl,rfl⟩:=bV he;exact Good.pure h (key none 0 0 r.rD) (by cases neg<;>exact .bool _)
 ·split at he
  ·rename_i hes;obtain⟨rfl,rfl⟩:=bV he;obtain⟨ad,c,hv⟩:=h.Tq r hes;exact Good.pure h (key ad _ c hv) (.fW _)
  ·rename_i u us hes;obtain⟨rfl,rfl⟩:=bV he;rcases h.Dt r hes with⟨_,h0⟩|⟨ad,c,vs,hv,_⟩
   ·cases h0
   ·exact Good.pure h (key (some ad) _ c hv) (by cases neg<;>exact .bool _)
  ·cases he
end
end
section
open Go.RowKit
section
variable {P : Program} {E : En} {S : St} {a : Act} {w : World} {L : Nat -> Value} {o : Oper} {x : PV} {wr : Option (Nat × fE)} {Γ : mR} {nid : Nat}
theorem We{t:TypeId}{fs:Array Field}{f g:Field}{k0 k:IntKind}{p q:Int}{s u:ByteArray}(ht:P.underlying t=some (.struct fs))(hfs:fs.toList=[f,g])(hf:P.underlying f.type=some (.int k0))(hg:P.underlying g.type=some .string)
  (h0:f.offset=0) (h1:g.offset=1) (hn0:f.name≠ "_") (hn1:g.name≠ "_") (hst:P.stoodInHeld t=false) (d:Nat):
  (Op.equalIn (d+2) t (.agg #[.int k p,.string s]) (.agg #[.int k q,.string u])).run P w= .ok (decide (p=q)&&decide (s=u)) w:=by
 have hfo:P.fieldsOf t=fs:=by simp[Program.fieldsOf,ht]
 have hi0:(isAgg f.type).run P w= .ok false w:=by simp[isAgg,run_underlying hf]
 have hi1:(isAgg g.type).run P w= .ok false w:=by simp[isAgg,run_underlying hg]
 have p0:∀v u:Value,(part f.type #[v,u] 0).run P w= .ok v w:=fun v u=>by simp[part,hi0]
 have p1:∀v u:Value,(part g.type #[v,u] 1).run P w= .ok u w:=fun v u=>by simp[part,hi1]
 rw[run_equalIn_struct w (d+1) t _ _ (by rw[hfo];exact ht) hst,hfo,hfs]
 have q0:=run_equalIn_int (P:=P) w d f.type k k0 p q hf;have q1:=run_equalIn_string (P:=P) w d g.type s u hg;rw[toList_eq_iff]at q1
 by_cases hpq:p=q
 ·subst hpq;simp[Op.eqFields,hn0,hn1,h0,h1,p0,p1,q0,q1]
  by_cases hsu:s=u<;>simp[hsu]
 ·have:(p==q)=false:=by simp[hpq]
  rw[this]at q0;simp[Op.eqFields,hn0,h0,p0,q0,hpq]
theorem ab6(h:Rel E S a w L){neg:Bool}{y z:Operand}{y' z':bn}{t t2:TypeId}(ho:o.op= .binOp (if neg then .neq else .eql) t y z t2)(ht:P.underlying t=some .bool)
  (hy:bd y=some y') (hz:bd z=some z') (he:exec Γ nid S (.Hl neg y' z')=some (x,wr)):Good P E S a w o x wr:=by
 have ry:=h.fj hy;have rz:=h.fj hz;simp only[exec]at he;split at he
 ·rename_i p q e1 e2;obtain⟨rfl,rfl⟩:=bV he;rw[e1]at ry;rw[e2]at rz;have hv:=ry.ku;have hu:=rz.ku;have hd:(p==q)=decide (p=q):=by cases p<;>cases q<;>rfl
  have hrun:=run_equalIn_bool (P:=P) w 9999 t p q ht;rw[hd]at hrun;have hgd:∀op,(eqGuard op t y z (.bool p) (.bool q)).run P w= .ok () w:=by intro op;cases op<;>simp[eqGuard]
  refine Good.pure h (v:= .bool (xor neg (decide (p=q)))) ?_ (.bool _);cases neg
  ·simp only[Qq,Qu]at ho;simp only[execOp,ho,hv,hu,Sem.run_bind,hgd,Result.andThen_ok,binOp,Op.equal,Op.maxDepth,Sem.run_pure];rw[hrun];simp
  ·simp only[Qt]at ho;simp only[execOp,ho,hv,hu,Sem.run_bind,hgd,Result.andThen_ok,binOp,Op.equal,Op.maxDepth,Sem.run_pure];rw[hrun];simp
 ·cases he
theorem ab7(h:Rel E S a w L){neg:Bool}{y z:Operand}{y' z':bn}{t t2:TypeId}{fs:Array Field}{f g:Field}{k0:IntKind}(ho:o.op= .binOp (if neg then .neq else .eql) t y z t2)(ht:P.underlying t=some (.struct fs))(hfs:fs.toList=[f,g])
  (hf:P.underlying f.type=some (.int k0)) (hg:P.underlying g.type=some .string) (h0:f.offset=0) (h1:g.offset=1) (hn0:f.name≠ "_") (hn1:g.name≠ "_") (hst:P.stoodInHeld t=false) (hgu:P.eqGuardType P.depth t=false)
  (hy:bd y=some y') (hz:bd z=some z') (he:exec Γ nid S (.nR neg y' z')=some (x,wr)):Good P E S a w o x wr:=by
 have ry:=h.fj hy;have rz:=h.fj hz;simp only[exec]at he;split at he
 ·rename_i k p s k' q u e1 e2;split at he
  ·rename_i hk;subst hk;obtain⟨rfl,rfl⟩:=bV he;rw[e1]at ry;rw[e2]at rz;obtain⟨vs,hv,hr⟩:=ry.qQ;obtain⟨us,hu,hr2⟩:=rz.qQ;obtain⟨v1,vs1,rfl,r1,hr⟩:=hr.cons_inv;obtain⟨v2,vs2,rfl,r2,hr⟩:=hr.cons_inv;have:=hr.qG;subst this;obtain⟨u1,us1,rfl,r3,hr2⟩:=hr2.cons_inv;obtain⟨u2,us2,rfl,r4,hr2⟩:=hr2.cons_inv;have:=hr2.qG;subst this;have:=r1.eV;subst this;have:=r2.nq;subst this;have:=r3.eV;subst this;have:=r4.nq;subst this;have hrun:=We (P:=P) (w:=w) (k:=k) (p:=p) (q:=q) (s:=s) (u:=u) ht hfs hf hg h0 h1 hn0 hn1 hst 9998
   have hgd:∀op,(eqGuard op t y z (.agg [.int k p,.string s].toArray) (.agg [.int k q,.string u].toArray)).run P w= .ok () w:=by
    intro op;cases op<;>simp[eqGuard,program,Sem.run,hgu]
   refine Good.pure h (v:= .bool (xor neg (decide (p=q)&&decide (s=u)))) ?_ (.bool _);cases neg
   ·simp only[Qq,Qu]at ho;simp only[execOp,ho,hv,hu,Sem.run_bind,hgd,Result.andThen_ok,binOp,Op.equal,Op.maxDepth,Sem.run_pure];rw[hrun];simp
   ·simp only[Qt]at ho;simp only[execOp,ho,hv,hu,Sem.run_bind,hgd,Result.andThen_ok,binOp,Op.equal,Op.maxDepth,Sem.run_pure];rw[hrun];simp
  ·cases he
 ·cases he
theorem Ds:∀(ks ks':List LK) (cs ds:List PV) (b:Bool),ln (ks++ks') cs ds=some b->
  ∃b1 b2,ln ks (cs.take ks.length) (ds.take ks.length)=some b1/\ln ks' (cs.drop ks.length) (ds.drop ks.length)=some b2/\b=(b1&&b2)
 |[],ks',cs,ds,b,h=>⟨true,b,by simp[ln],by simpa using h,by simp⟩
 |k::ks,ks',cs,ds,b,h=>by
  cases k<;>cases cs<;>cases ds<;>simp only[List.cons_append,ln]at h<;>try (cases h;done)
  all_goals rename_i x cs y ds
  all_goals cases x<;>cases y<;>simp only[ln]at h<;>try (cases h;done)
  ·split at h
   ·rename_i hk;simp only[Qb]at h;obtain⟨r,hr,rfl⟩:=h;obtain⟨b1,b2,h1,h2,rfl⟩:=Ds ks ks' cs ds r hr;refine⟨_,b2,?_,h2,(Bool.and_assoc _ _ _).symm⟩;simp only[QE,List.take_succ_cons,ln,Qr hk,h1,Qe]
   ·cases h
  all_goals
   simp only[Qb]at h;obtain⟨r,hr,rfl⟩:=h;obtain⟨b1,b2,h1,h2,rfl⟩:=Ds ks ks' cs ds r hr;refine⟨_,b2,?_,h2,(Bool.and_assoc _ _ _).symm⟩;simp only[QE,List.take_succ_cons,ln,h1,Qe]
theorem Kw:∀(ks:List LK) (cs ds:List PV) (b:Bool),ln ks cs ds=some b->cs.length=ks.length/\ds.length=ks.length
 |[],cs,ds,b,h=>by cases cs<;>cases ds<;>simp[ln]at h<;>simp
 |k::ks,cs,ds,b,h=>by
  cases k<;>cases cs<;>cases ds<;>(try simp only[ln]at h)<;>try (cases h;done)
  all_goals rename_i x cs y ds
  all_goals cases x<;>cases y<;>simp only[ln]at h<;>try (cases h;done)
  ·split at h
   ·simp only[Qb]at h;obtain⟨r,hr,rfl⟩:=h;have:=Kw ks cs ds r hr;simp[this.1,this.2]
   ·cases h
  all_goals
   simp only[Qb]at h;obtain⟨r,hr,rfl⟩:=h;have:=Kw ks cs ds r hr;simp[this.1,this.2]
def valOf(P:Program)(t:TypeId)(vs:List Value):Value:=
 match P.underlying t with
 |some (.struct _)=> .agg vs.toArray
 |_=>vs.headD undef
theorem MI{d:Nat}{t:TypeId}{ks:List LK}(h:yZ P (d+1) t=some ks):
  (∃k,P.underlying t=some (.int k)/\ks=[.i])\/(P.underlying t=some .string/\ks=[.s])\/(P.underlying t=some .bool/\ks=[.b])\/∃fs,P.underlying t=some (.struct fs)/\P.stoodInHeld t=false/\NZ P (yZ P d) fs.toList 0=some ks:=by
 rw[yZ]at h;split at h
 ·rename_i k hu;injection h with h;exact .inl ⟨k,hu,h.symm⟩
 ·rename_i hu;injection h with h;exact .inr (.inl ⟨hu,h.symm⟩)
 ·rename_i hu;injection h with h;exact .inr (.inr (.inl ⟨hu,h.symm⟩))
 ·rename_i fs hu;split at h
  ·rename_i hs;exact .inr (.inr (.inr ⟨fs,hu,hs,h⟩))
  ·cases h
 ·cases h
theorem K6{t:TypeId}{d off:Nat}{ks:List LK}{i:TypeInfo}{vs:List Value}(h:yZ P d t=some ks)(hi:P.info? t=some i)(hn:i.size=ks.length)(hlen:off+ks.length<=vs.length):
  (part t vs.toArray off).run P w= .ok (valOf P t ((vs.drop off).take ks.length)) w:=by
 cases d with
 |zero=>simp[yZ]at h
 |succ d=>
  have leaf:(∀fs,P.underlying t≠some (.struct fs))->(isAgg t).run P w= .ok false w->ks.length=1->(part t vs.toArray off).run P w= .ok (valOf P t ((vs.drop off).take ks.length)) w:=by
   intro hns ha h1;have hlt:off<vs.length:=by omega
   have hv:valOf P t ((vs.drop off).take ks.length)=vs[off]:=by
    unfold valOf;split
    ·rename_i fs hfs;exact absurd hfs (hns fs)
    ·rw[h1,QM hlt];rfl
   rw[hv];simp[part,ha,hlt]
  rcases MI h with⟨k,hu,rfl⟩|⟨hu,rfl⟩|⟨hu,rfl⟩|⟨fs,hu,_,_⟩
  ·exact leaf (fun fs e=>by rw[hu]at e;cases e) (by simp[isAgg,run_underlying hu]) rfl
  ·exact leaf (fun fs e=>by rw[hu]at e;cases e) (by simp[isAgg,run_underlying hu]) rfl
  ·exact leaf (fun fs e=>by rw[hu]at e;cases e) (by simp[isAgg,run_underlying hu]) rfl
  ·have ha:(isAgg t).run P w= .ok true w:=by simp[isAgg,run_underlying hu]
   have hv:valOf P t ((vs.drop off).take ks.length)= .agg ((vs.drop off).take ks.length).toArray:=by unfold valOf;rw[hu]
   rw[hv];simp[part,ha,sizeOf,typeInfo,hi,hn,List.extract]
theorem aaf{M:Nat->Prop}{G:Gh}{d e:Nat}(hA:∀(t:TypeId) (ks:List LK) (cs ds:List PV) (b:Bool) (vs us:List Value),yZ P d t=some ks->ln ks cs ds=some b->bg w M G cs vs->bg w M G ds us->(Op.equalIn e t (valOf P t vs) (valOf P t us)).run P w= .ok b w):
  ∀(fs:List Field) (ks:List LK) (off:Nat) (cs ds:List PV) (b:Bool) (vs us:List Value),NZ P (yZ P d) fs off=some ks->cs.length=off+ks.length->ds.length=off+ks.length->ln ks (cs.drop off) (ds.drop off)=some b->bg w M G cs vs->bg w M G ds us->(Op.eqFields e vs.toArray us.toArray fs).run P w= .ok b w:=by
 intro fs
 induction fs with
 |nil=>
  intro ks off cs ds b vs us h hc hd hq hr hr2;simp only[NZ,Qf]at h;subst h;rw[List.drop_eq_nil_of_le (by simpa using Nat.le_of_eq hc),List.drop_eq_nil_of_le (by simpa using Nat.le_of_eq hd)]at hq
  simp only[ln,Qf]at hq;subst hq;simp[Op.eqFields]
 |cons f fs ih=>
  intro ks off cs ds b vs us h hc hd hq hr hr2;rw[NZ]at h;split at h
  ·rename_i hname;obtain⟨hname,hoff⟩:=hname;split at h
   ·rename_i k1 i hk1 hi;split at h
    ·rename_i hsz;simp only[Qb]at h;obtain⟨k2,hk2,rfl⟩:=h;rw[QB]at hc hd;obtain⟨b1,b2,h1,h2,rfl⟩:=Ds k1 k2 _ _ b hq;rw[List.drop_drop]at h2;rw[List.drop_drop]at h2;have p1:(part f.type vs.toArray f.offset).run P w=_:=K6 (w:=w) hk1 hi hsz (by rw[hoff,hr.1];omega)
     have p2:(part f.type us.toArray f.offset).run P w=_:=K6 (w:=w) hk1 hi hsz (by rw[hoff,hr2.1];omega)
     have q1:=hA f.type k1 _ _ b1 _ _ hk1 h1 ((hr.drop off).take k1.length) ((hr2.drop off).take k1.length);rw[<-hoff]at q1;have q2:=ih k2 (off+k1.length) cs ds b2 vs us hk2 (by omega) (by omega) h2 hr hr2
     cases b1 with
     |false=>simp[Op.eqFields,hname,p1,p2,q1]
     |true=>simp[Op.eqFields,hname,p1,p2,q1,q2]
    ·cases h
   ·cases h
  ·cases h
theorem Rs{M:Nat->Prop}{G:Gh}:∀(d:Nat) (t:TypeId) (ks:List LK) (e:Nat) (cs ds:List PV) (b:Bool) (vs us:List Value),yZ P d t=some ks->d<=e->ln ks cs ds=some b->bg w M G cs vs->bg w M G ds us->(Op.equalIn e t (valOf P t vs) (valOf P t us)).run P w= .ok b w
 |0=>fun t ks e cs ds b vs us h=>by simp[yZ]at h
 |d+1=>by
  have hA:=Rs (M:=M) (G:=G) d;intro t ks e cs ds b vs us h he hq hr hr2
  ·obtain⟨e,rfl⟩:∃e',e=e'+1:=⟨e - 1,by omega⟩
   obtain⟨hl1,hl2⟩:=Kw _ _ _ _ hq
   have one:∀{x:LK},ks=[x]->∃p q v u,cs=[p]/\ds=[q]/\vs=[v]/\us=[u]/\bm w M G p v/\bm w M G q u:=by
    intro x hx;subst hx;have h1:∃p,cs=[p]:=List.length_eq_one_iff.1 hl1;have h2:∃p,ds=[p]:=List.length_eq_one_iff.1 hl2;obtain⟨p,rfl⟩:=h1;obtain⟨q,rfl⟩:=h2;obtain⟨v,vs',rfl,r1,r2⟩:=hr.cons_inv;obtain⟨u,us',rfl,r3,r4⟩:=hr2.cons_inv;have e1:=r2.qG;have e2:=r4.qG;subst e1 e2;exact⟨p,q,v,u,rfl,rfl,rfl,rfl,r1,r3⟩
   have hval:∀l:List Value,(∀fs,P.underlying t≠some (.struct fs))->valOf P t l=l.headD undef:=by
    intro l hns;unfold valOf;split
    ·rename_i fs hfs;exact absurd hfs (hns fs)
    ·rfl
   rcases MI h with⟨k,hu,hk⟩|⟨hu,hk⟩|⟨hu,hk⟩|⟨fs,hu,hst,hf⟩
   ·obtain⟨p,q,v,u,rfl,rfl,rfl,rfl,r1,r2⟩:=one hk;subst hk;rw[hval _ (fun fs e=>by rw[hu]at e;cases e),hval _ (fun fs e=>by rw[hu]at e;cases e)]
    cases p<;>cases q<;>simp only[ln]at hq<;>try (cases hq;done)
    split at hq
    ·rename_i hkk;subst hkk;simp only[Qe,Qf,Bool.and_true]at hq;subst hq;have:=r1.eV;subst this;have:=r2.eV;subst this;rename_i k1 a1 b1;exact run_equalIn_int w e t _ k a1 b1 hu
    ·cases hq
   ·obtain⟨p,q,v,u,rfl,rfl,rfl,rfl,r1,r2⟩:=one hk;subst hk;rw[hval _ (fun fs e=>by rw[hu]at e;cases e),hval _ (fun fs e=>by rw[hu]at e;cases e)]
    cases p<;>cases q<;>simp only[ln]at hq<;>try (cases hq;done)
    simp only[Qe,Qf,Bool.and_true]at hq;subst hq;have:=r1.nq;subst this;have:=r2.nq;subst this;rename_i a1 b1;have:=run_equalIn_string (P:=P) w e t a1 b1 hu;rw[toList_eq_iff]at this;exact this
   ·obtain⟨p,q,v,u,rfl,rfl,rfl,rfl,r1,r2⟩:=one hk;subst hk;rw[hval _ (fun fs e=>by rw[hu]at e;cases e),hval _ (fun fs e=>by rw[hu]at e;cases e)]
    cases p<;>cases q<;>simp only[ln]at hq<;>try (cases hq;done)
    simp only[Qe,Qf,Bool.and_true]at hq;subst hq;have:=r1.ku;subst this;have:=r2.ku;subst this;rename_i a1 b1;have:=run_equalIn_bool (P:=P) w e t a1 b1 hu;rw[show(a1==b1)=decide (a1=b1)by cases a1<;>cases b1<;>rfl]at this
    exact this
   ·have hv:∀l:List Value,valOf P t l= .agg l.toArray:=fun l=>by unfold valOf;rw[hu]
    have hfo:P.fieldsOf t=fs:=by simp[Program.fieldsOf,hu]
    rw[hv,hv,run_equalIn_struct w e t _ _ (by rw[hfo];exact hu) hst,hfo]
    exact aaf (fun t ks cs ds b vs us h1 h2 h3 h4=>hA t ks e cs ds b vs us h1 (by omega) h2 h3 h4) fs.toList ks 0 cs ds b vs us hf (by omega) (by omega) (by simpa using hq) hr hr2
theorem P4(h:Rel E S a w L){neg:Bool}{ks:List LK}{y z:Operand}{y' z':bn}{t t2:TypeId}{fs:Array Field}(ho:o.op= .binOp (if neg then .neq else .eql) t y z t2)(ht:P.underlying t=some (.struct fs))(hk:yZ P 64 t=some ks)
  (hgu:P.eqGuardType P.depth t=false) (hy:bd y=some y') (hz:bd z=some z') (he:exec Γ nid S (.D8 neg ks y' z')=some (x,wr)):Good P E S a w o x wr:=by
 have ry:=h.fj hy;have rz:=h.fj hz;simp only[exec]at he;split at he
 ·rename_i cs ds e1 e2;simp only[Qb]at he;obtain⟨b,hb,he⟩:=he;injection he with h1 h2
  subst h1 h2;rw[e1]at ry;rw[e2]at rz;obtain⟨vs,hv,hr⟩:=ry.qQ;obtain⟨us,hu,hr2⟩:=rz.qQ;have hval:∀l:List Value,valOf P t l= .agg l.toArray:=fun l=>by unfold valOf;rw[ht]
  have hrun:=Rs (P:=P) (w:=w) 64 t ks 10000 cs ds b vs us hk (by omega) hb hr hr2
  rw[hval,hval]at hrun
  have hgd:∀op,(eqGuard op t y z (.agg vs.toArray) (.agg us.toArray)).run P w= .ok () w:=by
   intro op;cases op<;>simp[eqGuard,program,Sem.run,hgu]
  refine Good.pure h (v:= .bool (xor neg b)) ?_ (.bool _);cases neg
  ·simp only[Qq,Qu]at ho;simp only[execOp,ho,hv,hu,Sem.run_bind,hgd,Result.andThen_ok,binOp,Op.equal,Op.maxDepth,Sem.run_pure];rw[hrun];simp
  ·simp only[Qt]at ho;simp only[execOp,ho,hv,hu,Sem.run_bind,hgd,Result.andThen_ok,binOp,Op.equal,Op.maxDepth,Sem.run_pure];rw[hrun];simp
 ·cases he
theorem bm.closed{M M':Nat->Prop}{G G':Gh}{y:PV}{v:Value}(hc:y.closed=true)(hM:∀b,M' b->M b)(h:bm w M G y v):bm w M' G' y v:=by
 have hs:dZ w w M M':=(dZ.of fun _ hm=>fun h'=>hm (hM _ h'))
 cases h with
 |any=>simp[PV.closed]at hc
 |undef=>simp[PV.closed]at hc
 |int=>exact .int _ _
 |bool=>exact .bool _
 |fW=>first|exact .fW _|simp[PV.closed]at hc
 |str=>exact .str _
 |jW=>exact .jW
 |dW=>exact .dW
 |bY f cs vs hl h=>
  cases cs with
  |nil=>exact .bY f [] vs hl (fun i x v hx _=>by simp at hx)
  |cons=>simp[PV.closed]at hc
 |jx=>simp[PV.closed]at hc
 |agg=>simp[PV.closed]at hc
 |dg=>simp[PV.closed]at hc
 |ptr=>simp[PV.closed]at hc
 |ref cs ad vs hl hcell h=>exact .ref cs ad vs hl (fun i u hu=>⟨(hcell i u hu).1,fun h'=>(hcell i u hu).2 (hM _ h')⟩) (fun i p u hp hu=>(h i p u hp hu).mono hs (Gh.le.refl _))
 |sl es ad c k vs hk hl hcell h hn hm=>exact .sl es ad c k vs hk hl (fun i u hu=>⟨(hcell i u hu).1,fun h'=>(hcell i u hu).2 (hM _ h')⟩) (fun i p u hp hu=>(h i p u hp hu).mono hs (Gh.le.refl _)) hn hm
 |slnil=>exact .slnil
 |own=>simp[PV.closed]at hc
 |eN=>simp[PV.closed]at hc
 |view=>simp[PV.closed]at hc
 |wM=>exact .wM
 |xF T v=>exact .xF T v
 |jw T x v hp h=>exact .jw T x v hp (h.plain hp)
 |jg ks us b es ck hb hMb hk hv h1 h2=>exact .jg ks us b es ck hb (fun h'=>hMb (hM _ h')) hk hv (fun i p e hp he=>(h1 i p e hp he).mono hs (Gh.le.refl _)) (fun i p e hp he=>(h2 i p e hp he).mono hs (Gh.le.refl _))
theorem bg.closed{M M':Nat->Prop}{G G':Gh}{ys:List PV}{vs:List Value}(hc:ys.all PV.closed=true)(hM:∀b,M' b->M b)(h:bg w M G ys vs):bg w M' G' ys vs:=
 ⟨h.1,fun i y v hy hv=>(h.2 i y v hy hv).closed (QH.1 hc y (Q7 hy)) hM⟩
theorem bm.bw{M M':Nat->Prop}{G G':Gh}{y:PV}{v:Value}(hc:y.bw=true)(hM:∀b,M' b->M b)(h:bm w M G y v):bm w M' G' y v:=by
 cases y with
 |agg cs=>cases h with|agg _ vs hl h=>have:=bg.closed (G':=G') (by simpa[PV.bw]using hc) hM ⟨hl,h⟩;exact .agg cs vs this.1 this.2
 |dg cs=>cases h with|dg _ vs hl h=>have:=bg.closed (G':=G') (by simpa[PV.bw]using hc) hM ⟨hl,h⟩;exact .dg cs vs this.1 this.2
 |bY f cs=>cases h with|bY _ _ vs hl h=>have:=bg.closed (G':=G') (by simpa[PV.bw]using hc) hM ⟨hl,h⟩;exact .bY f cs vs this.1 this.2
 |_=>exact h.closed (by simpa[PV.bw]using hc) hM
theorem bm.u7{M M':Nat->Prop}{G G':Gh}{y:PV}{v:Value}(hc:y.u7=true)(hM:∀b,M' b->M b)(h:bm w M G y v):bm w M' G' y v:=by
 cases y with
 |dg cs=>cases h with|dg _ vs hl h=>exact .dg cs vs hl fun i y v hy hv=>(h i y v hy hv).bw (QH.1 (show cs.all PV.bw=true from hc) y (Q7 hy)) hM
 |_=>exact h.bw hc hM
theorem bm.oS{w':World}{M M':Nat->Prop}{G G':Gh}{y:PV}{v:Value}(hc:y.oS=true)(h:bm w M G y v):bm w' M' G' y v:=by
 have go:∀{cs:List PV} {vs:List Value},cs.all PV.plain=true->bg w M G cs vs->bg w' M' G' cs vs:=fun hc h=>⟨h.1,fun i y v hy hv=>(h.2 i y v hy hv).plain (QH.1 hc y (Q7 hy))⟩
 cases y with
 |agg cs=>cases h with|agg _ vs hl h=>have:=go (by simpa[PV.oS]using hc) ⟨hl,h⟩;exact .agg cs vs this.1 this.2
 |_=>exact h.plain (by simpa[PV.oS]using hc)
theorem bm.tT{w':World}{M M':Nat->Prop}{G G':Gh}{y:PV}{v:Value}(hc:y.tT=true)(h:bm w M G y v):bm w' M' G' y v:=by
 cases y with
 |dg cs=>cases h with|dg _ vs hl h=>exact .dg cs vs hl fun i y v hy hv=>(h i y v hy hv).oS (QH.1 (show cs.all PV.oS=true from hc) y (Q7 hy))
 |_=>exact h.oS hc
theorem bg.plain{w':World}{M M':Nat->Prop}{G G':Gh}{ys:List PV}{vs:List Value}(hc:ys.all PV.plain=true)(h:bg w M G ys vs):bg w' M' G' ys vs:=
 ⟨h.1,fun i y v hy hv=>(h.2 i y v hy hv).plain (QH.1 hc y (Q7 hy))⟩
theorem wi{H:Nat->fE}{ex:Option Nat}{M M':Nat->Prop}{G:Gh}{y:PV}{v:Value}(hc:y.closed=true)(hM:∀b,M' b->M b)(h:bm w M G y v)(n:Nat):bm w M' dX (fz H ex n y) v:=by
 have hn:y= .dW\/fz H ex n y=y:=by
  cases y with
  |bY f cs=>
   cases cs with
   |nil=>right;cases n<;>simp[fz,PV.closed]
   |cons=>simp[PV.closed]at hc
  |_=>first|exact .inl rfl|(right;cases n<;>simp_all [fz,PV.closed])|(simp[PV.closed]at hc;done)
 rcases hn with rfl|hn
 ·have:=h.rD;subst this;cases n<;>exact .slnil
 ·rw[hn];exact h.closed hc hM
theorem NW{H:Nat->fE}{ex:Option Nat}{M M':Nat->Prop}{G:Gh}{y:PV}{v:Value}(hc:y.bw=true)(hM:∀b,M' b->M b)(h:bm w M G y v)(n:Nat):bm w M' dX (fz H ex (n+1) y) v:=by
 have go:∀{cs:List PV} {vs:List Value},cs.all PV.closed=true->bg w M G cs vs->bg w M' dX (cs.map (fz H ex n)) vs:=fun hc hr=>
  ⟨by simp[hr.1],fun i p u hp hu=>by
   rw[QT,Qb]at hp;obtain⟨q,hq,rfl⟩:=hp
   exact wi (QH.1 hc q (Q7 hq)) hM (hr.2 i q u hq hu) n⟩
 cases y with
 |agg cs=>obtain⟨vs,rfl,hr⟩:=h.qQ;have:=go (by simpa[PV.bw]using hc) hr;simp only[fz];exact .agg _ _ this.1 this.2
 |dg cs=>obtain⟨vs,rfl,hr⟩:=h.DE;have:=go (by simpa[PV.bw]using hc) hr;simp only[fz];exact .dg _ _ this.1 this.2
 |bY f cs=>obtain⟨vs,rfl,hr⟩:=h.zg;have:=go (by simpa[PV.bw]using hc) hr;simp only[fz];exact .bY _ _ _ this.1 this.2
 |_=>exact wi (by simpa[PV.bw]using hc) hM h (n+1)
theorem Rel.fz(h:Rel E S a w L){ex:Option Nat}{M:Nat->Prop}(hM:∀b,M b->br E S L b)(hx:∀id b,id<S.N->(S.H id).c.live=true->some id≠ex->cW (L id)=some b->¬M b):
  ∀(n:Nat) {y:PV} {v:Value},bm w (br E S L) (S.gh L) y v->bm w M dX (fz S.H ex n y) v
 |0,y,v,r=>by
  cases hc:y.closed with
  |true=>exact wi hc hM r 0
  |false=>
   have:TQ.fz S.H ex 0 y= .any:=by cases y<;>simp_all [TQ.fz,PV.closed]
   rw[this];exact .any _
 |n+1,y,v,r=>by
  have ih:=fun{y:PV} {v:Value} (r:bm w (br E S L) (S.gh L) y v)=>h.fz hM hx n r
  have ihl:∀{cs:List PV} {vs:List Value},bg w (br E S L) (S.gh L) cs vs->bg w M dX (cs.map (TQ.fz S.H ex n)) vs:=fun hr=>
   ⟨by simp[hr.1],fun i p u hp hu=>by
    rw[QT,Qb]at hp;obtain⟨q,hq,rfl⟩:=hp
    exact ih (hr.2 i q u hq hu)⟩
  cases y with
  |own id ak=>
   simp only[TQ.fz];split
   ·exact .any _
   ·rename_i hne;have hne':some id≠ex/\(S.H id).ak=ak:=⟨fun e=>hne (.inl e),Classical.not_not.1 fun e=>hne (.inr e)⟩
    split
    ·rename_i e k es hc;obtain⟨hN,hv⟩:=r.mj (show(S.gh L).V id=ak from hne'.2)
     obtain⟨vs,hown,hk,hr⟩:=h.jt hN hc;rw[hv,show(S.gh L).L id=L id from rfl]
     have hfl:(es.map fun e=>e.map (TQ.fz S.H ex n)).flatten=es.flatten.map (TQ.fz S.H ex n):=by rw[List.map_flatten]
     rcases hown.2 with⟨hL,h0⟩|⟨g,cap,cur,hL,_,hh,hnc,hcm,_⟩
     ·have:es=[]:=Qq66 h0;subst this;rw[hL];exact .slnil
     ·rw[hL];have hr2:=ihl hr;rw[<-hfl]at hr2;have hlen:es.length=(es.map fun e=>e.map (TQ.fz S.H ex n)).length:=by simp
      rw[hlen];refine .sl _ _ _ k vs (fun u hu=> ?_) hr2.1 (fun i u hu=>⟨hown.cells (g:=g) (by rw[hL];rfl) i u hu,hx id g hN (by rw[hc];rfl) hne'.1 (by rw[hL];rfl)⟩) hr2.2 (by simpa using hnc) hcm
      obtain⟨q,hq,rfl⟩:=QP.1 hu;simpa using hk q hq
    ·exact .any _
  |ptr id ak off=>
   simp only[TQ.fz];split
   ·exact .any _
   ·rename_i hne;have hne':some id≠ex/\(S.H id).ak=ak:=⟨fun e=>hne (.inl e),Classical.not_not.1 fun e=>hne (.inr e)⟩
    split
    ·rename_i cs hc;obtain⟨hN,_⟩:=r.oI (show(S.gh L).V id=ak from hne'.2)
     obtain⟨b,hv,hL⟩:=h.pH r hne'.2 hc;obtain⟨b',cur,T,hL',hh,hr,_⟩:=h.o6 hN hc;rw[hL]at hL';simp only[Value.pointer.injEq,Qf,Addr.mk.injEq]at hL';obtain⟨rfl,_⟩:=hL';rw[hv];have hr2:=(ihl hr).drop off;exact .ref _ _ _ hr2.1 (fun i u hu=>⟨by rw[add_mid];exact o0 hh (gk hu),hx id b hN (by rw[hc];rfl) hne'.1 (by rw[hL];rfl)⟩) hr2.2
    ·exact .any _
  |agg cs=>obtain⟨vs,rfl,hr⟩:=r.qQ;have:=ihl hr;exact .agg _ _ this.1 this.2
  |dg cs=>obtain⟨vs,rfl,hr⟩:=r.DE;have:=ihl hr;exact .dg _ _ this.1 this.2
  |bY f cs=>obtain⟨vs,rfl,hr⟩:=r.zg;have:=ihl hr;exact .bY _ _ _ this.1 this.2
  |dW=>exact wi rfl hM r (n+1)
  |_=>
   simp only[TQ.fz];split
   ·rename_i hc;exact r.closed hc hM
   ·exact .any _
theorem adm(h:Rel E S a w L){b:Nat}(hb:br E S L b):b<w.heap.size:=by
 rcases hb with⟨id,hid,hl,hb⟩|hb
 ·exact((h.obj id hid).ya hl hb).1
 ·exact QJ (E.hX.lt b hb) h.fr.size
theorem Ia(h:Rel E S a w L){b:Nat}(hb:br E S L b):¬gb b:=by
 rcases hb with⟨id,hid,hl,hb⟩|hb
 ·rcases((h.obj id hid).ya hl hb).2 with h1|h1
  ·exact(E.Mx b h1).2
  ·intro hg;have:=E.hX.gi.lt hg;omega
 ·exact E.hX.ng b hb
theorem Rel.gi(h:Rel E S a w L):GI w:=E.hX.gi.eu fun b hg=>h.fr.block b (E.hX.gi.lt hg) fun e=>(E.Mx b e).2 hg
theorem Rel.Oa(h:Rel E S a w L){X:Nat->Prop}(hX:∀q,X q->br E S L q):tq w X:=⟨fun q hq=>adm h (hX q hq),fun q hq=>Ia h (hX q hq),h.gi⟩
theorem Rel.x0(h:Rel E S a w L):tq w fun _=>False:= .nil h.gi
theorem bg.fz(h:Rel E S a w L){ex:Option Nat}{M:Nat->Prop}(hM:∀b,M b->br E S L b)(hx:∀id b,id<S.N->(S.H id).c.live=true->some id≠ex->cW (L id)=some b->¬M b){args:List PV}{vs:List Value}
  (hr:bg w (br E S L) (S.gh L) args vs):bg w M dX (args.map (TQ.fz S.H ex 9)) vs:=
 ⟨by simp[hr.1],fun i p u hp hu=>by
  rw[QT,Qb]at hp;obtain⟨q,hq,rfl⟩:=hp
  exact h.fz hM hx 9 (hr.2 i q u hq hu)⟩
theorem bg.bw{M M':Nat->Prop}{G G':Gh}{ys:List PV}{vs:List Value}(hc:ys.all PV.bw=true)(hM:∀b,M' b->M b)(h:bg w M G ys vs):bg w M' G' ys vs:=
 ⟨h.1,fun i y v hy hv=>(h.2 i y v hy hv).bw (QH.1 hc y (Q7 hy)) hM⟩
theorem bg.uX{H:Nat->fE}{ex:Option Nat}{M M':Nat->Prop}{G:Gh}{ys:List PV}{vs:List Value}(hc:ys.all PV.bw=true)(hM:∀b,M' b->M b)(h:bg w M G ys vs):bg w M' dX (ys.map (TQ.fz H ex 9)) vs:=
 ⟨by simp[h.1],fun i p u hp hu=>by
  rw[QT,Qb]at hp;obtain⟨q,hq,rfl⟩:=hp
  exact NW (QH.1 hc q (Q7 hq)) hM (h.2 i q u hq hu) 8⟩
theorem Jg{es:List (List PV)}(h:BK es=true):es.flatten.all PV.closed=true:=by
 refine QH.2 fun y hy=> ?_
 obtain⟨u,hu,hyu⟩:=List.mem_flatten.1 hy;exact QH.1 (QH.1 h u hu) y hyu
theorem zC{es:List (List PV)}(h:BI es=true):es.flatten.all PV.plain=true:=by
 refine QH.2 fun y hy=> ?_
 obtain⟨u,hu,hyu⟩:=List.mem_flatten.1 hy;exact QH.1 (QH.1 h u hu) y hyu
theorem GG{w:World}{b:Nat}{e k:Nat}{v:Value}{n:Nat}{xs:List Value}(h:w.ownsRow b e k v n xs):w.ownsRow 0 e k v n xs:=by
 refine⟨h.1,?_⟩;rcases h.2 with h1|⟨g,cap,cur,h1,_,h3⟩
 ·exact .inl h1
 ·exact .inr ⟨g,cap,cur,h1,QS _,h3⟩
theorem RY{w w':World}{b:Nat}{e k:Nat}{v:Value}{n n':Nat}{xs ys:List Value}(h:w.ownsRow b e k v n xs)(h':w'.ownsRow 0 e k v n' ys):w'.ownsRow b e k v n' ys:=by
 refine⟨h'.1,?_⟩;rcases h'.2 with h1|⟨g,cap,cur,h1,_,h3⟩
 ·exact .inl h1
 ·refine .inr ⟨g,cap,cur,h1,?_,h3⟩;rcases h.2 with⟨h4,_⟩|⟨g',cap',cur',h4,h5,_⟩
  ·rw[h4]at h1;cases h1
  ·rw[h4]at h1;injection h1 with h1
   injection h1 with h1
   injection h1 with h1
   omega
theorem AF{w:World}{b:Nat}{e k:Nat}{v:Value}{n:Nat}{xs:List Value}(h:w.ownsRow b e k v n xs):∃ad n c,v= .slice ad n c:=by
 rcases h.2 with⟨rfl,_⟩|⟨g,cap,cur,rfl,_⟩
 ·exact⟨_,_,_,rfl⟩
 ·exact⟨_,_,_,rfl⟩
theorem xC{E:En}{w w':World}{b:Nat}{e k:Nat}{v u:Value}{n n':Nat}{xs ys:List Value}(h:w.ownsRow (gI E v) e k v n xs)(h':w'.ownsRow 0 e k u n' ys)(hs:E.w0.heap.size<=b)
  (hu:∀g,cW u=some g->cW v=some g\/b<=g):w'.ownsRow (gI E u) e k u n' ys:=by
 refine⟨h'.1,?_⟩;rcases h'.2 with h1|⟨g,cap,cur,h1,_,h3⟩
 ·exact .inl h1
 ·refine .inr ⟨g,cap,cur,h1,?_,h3⟩;have hbu:cW u=some g:=by rw[h1];rfl
  rcases hu g hbu with hv|hv
  ·rw[AD (v:=u) (v':=v) (by rw[hbu,hv])]
   rcases h.2 with⟨h4,_⟩|⟨g',cap',cur',h4,h5,_⟩
   ·rw[h4]at hv;cases hv
   ·rw[h4]at hv;simp only[cW,Qf]at hv;omega
  ·rw[Ja hbu (QK hs hv)];exact QK hs hv
theorem U1(h:Rel E S a w L){id:Nat}(hN:id<S.N)(hlive:(S.H id).c.live=true){rest:List PV}{vs':List Value}(hr':bg w (br E S L) (S.gh L) rest vs'):
  ∃X:Nat->Prop,tq w X/\(∀b,cW (L id)=some b->¬X b/\¬gb b)/\(∀q,Mv (L id) X q->br E S L q)/\bg w (Mv (L id) X) dX (rest.map (TQ.fz S.H (some id) 9)) vs'/\(rest.all PV.bw=true->∀q,br E S L q->Mv (L id) X q):=by
 have hmb:∀b,cW (L id)=some b->br E S L b:=fun b hb=> .inl ⟨id,hN,hlive,hb⟩
 by_cases hall:rest.all PV.bw=true
 ·have hsub:∀q,Mv (L id) (fun q=>br E S L q/\cW (L id)≠some q) q->br E S L q:=by
   rintro q (hq|hq)
   ·exact hmb q hq
   ·exact hq.1
  refine⟨fun q=>br E S L q/\cW (L id)≠some q,h.Oa fun q hq=>hq.1,fun b hb=>⟨fun hq=>hq.2 hb,Ia h (hmb b hb)⟩,hsub,hr'.uX hall hsub,fun _ q hq=> ?_⟩
  by_cases hb:cW (L id)=some q
  ·exact .inl hb
  ·exact .inr ⟨hq,hb⟩
 ·have hsub:∀q,Mv (L id) (fun _=>False) q->br E S L q:=by
   rintro q (hq|hq)
   ·exact hmb q hq
   ·exact hq.elim
  refine⟨fun _=>False,h.x0,fun b hb=>⟨fun hq=>hq,Ia h (hmb b hb)⟩,hsub,?_,fun hq=>absurd hq hall⟩
  refine hr'.fz h hsub (fun j q hj hjl hne hjb hq=> ?_)
  rcases hq with hq|hq
  ·exact hne (by rw[h.apart j id q hj hN hjl hlive hjb hq])
  ·exact hq
theorem afN{f:FuncId}{m:Model}{e k:Nat}(hrow:∀es args r es',m.rm es args=some (r,es')->XY P f e k es args r es')(h:Rel E S a w L){args:List PV}{vs:List Value}(hr:bg w (br E S L) (S.gh L) args vs)(he:zj m e k S args=some (x,wr)):
  Calls P f vs.toArray w (fun en w'=>∃v L',en= .returned v/\Rel E (S.eO wr) a w' L'/\bm w' (br E (S.eO wr) L') ((S.eO wr).gh L') x v):=by
 unfold zj at he;split at he
 case h_2=>cases he
 rename_i id ak rest;split at he
 case isFalse=>cases he
 rename_i hver;split at he
 case h_2=>cases he
 rename_i e' k' es hc;split at he
 case isFalse=>cases he
 rename_i hek;obtain⟨rfl,rfl,hok⟩:=hek;split at he
 case h_2=>cases he
 rename_i r es' hmm;split at he
 case isFalse=>cases he
 rename_i hcond;obtain⟨rfl,rfl⟩:=bV he;simp only[Qm,Qn]at hcond;obtain⟨⟨hc1,hc2⟩,hc3⟩:=hcond;obtain⟨v0,vs',rfl,r0,hr'⟩:=hr.cons_inv;obtain⟨hN,hv0⟩:=r0.mj (show(S.gh L).V id=ak from hver)
 have hv0:v0=L id:=hv0;subst hv0;have hlive:(S.H id).c.live=true:=by rw[hc];rfl
 obtain⟨us,hown,hk,hru⟩:=h.jt hN hc;obtain⟨X,hX,hXn,hsub,hargs,hsup⟩:=U1 h hN hlive hr';refine(hrow es _ r es' hmm w X hX (L id) vs' hXn ⟨us,GG hown,hk,hru.closed (Jg hok) hsub⟩ hargs).mono ?_;rintro en w' ⟨u,rfl,hrep,⟨us',hown',hk',hru'⟩,hfr⟩
 have hmm':∀q,br E {S with H:=bJ S.H id ⟨ak,.row e' k' es'⟩} (bJ L id (L id)) q->br E S L q:=by
  rintro q (⟨j,hj,hjl,hjb⟩|hq)
  ·simp only at hj hjl;have:bJ L id (L id) j=L j:=by by_cases hji:j=id<;>simp[bJ,hji]
   rw[this]at hjb
   by_cases hji:j=id
   ·subst hji;exact .inl ⟨j,hj,hlive,hjb⟩
   ·rw[cu _ _ hji]at hjl;exact .inl ⟨j,hj,hjl,hjb⟩
  ·exact .inr hq
 have hst:rest.all PV.bw=true->dZ w' w' (Mv (L id) X) (br E {S with H:=bJ S.H id ⟨ak,.row e' k' es'⟩} (bJ L id (L id))):=fun hall=>(dZ.of fun _ hnm=>fun hq=>hnm (hsup hall _ (hmm' _ hq)))
 obtain⟨h2,hs2,hg2⟩:=h.qA (w':=w') (hdr:=hfr.drawn) hN ⟨ak,.row e' k' es'⟩ (L id) (.inl ⟨hver.symm,rfl,hlive⟩) hfr.os hfr.tape hfr.output hfr.size
  (fun q hq hne=>hfr.block q hq (hne hlive)) (fun q _ hq=> .inl ⟨hlive,hq⟩)
  (fun hs2 hg2=>⟨us',RY hown hown',hk',by
   rcases hc3 with hpl|hall
   ·exact hru'.plain (zC hpl)
   ·exact hru'.mono (hst hall) (dX.le _)⟩)
 refine⟨u,_,rfl,h2,?_⟩;rcases hc1 with hpl|hall
 ·exact hrep.tT hpl
 ·exact hrep.mono (hst hall.1) (dX.le _)
theorem afJ{f:FuncId}{m:Model}{e k:Nat}(hrow:∀es args r es',m.rm es args=some (r,es')->Uc P f e k es args es')(h:Rel E S a w L){args:List PV}{vs:List Value}(hr:bg w (br E S L) (S.gh L) args vs)(he:zi m e k S args=some (x,wr)):
  Calls P f vs.toArray w (fun en w'=>∃v L',en= .returned v/\Rel E (S.eO wr) a w' L'/\bm w' (br E (S.eO wr) L') ((S.eO wr).gh L') x v):=by
 unfold zi at he;split at he
 case h_2=>cases he
 rename_i id ak rest;split at he
 case isFalse=>cases he
 rename_i hver;split at he
 case h_2=>cases he
 rename_i e' k' es hc;split at he
 case isFalse=>cases he
 rename_i hek;obtain⟨rfl,rfl,hok⟩:=hek;split at he
 case h_2=>cases he
 rename_i r es' hmm;split at he
 case isFalse=>cases he
 rename_i hcond;obtain⟨rfl,rfl⟩:=bV he;simp only[Qm,Qn]at hcond;obtain⟨hc2,hc3⟩:=hcond;obtain⟨v0,vs',rfl,r0,hr'⟩:=hr.cons_inv;obtain⟨hN,hv0⟩:=r0.mj (show(S.gh L).V id=ak from hver)
 have hv0:v0=L id:=hv0;subst hv0;have hlive:(S.H id).c.live=true:=by rw[hc];rfl
 obtain⟨us,hown,hk,hru⟩:=h.jt hN hc;obtain⟨X,hX,hXn,hsub,hargs,hsup⟩:=U1 h hN hlive hr';refine(hrow es _ r es' hmm w X hX (L id) vs' hXn ⟨us,GG hown,hk,hru.closed (Jg hok) hsub⟩ hargs).mono ?_;rintro en w' ⟨u,rfl,⟨us',hown',hk',hru'⟩,hub,hfr⟩
 have hEX:∀q,E.X q->cW (L id)≠some q:=by
  intro q hq hb;rcases hown.2 with⟨h4,_⟩|⟨g',cap',cur',h4,h5,_⟩
  ·rw[h4]at hb;cases hb
  ·have hbg:cW (L id)=some g':=by rw[h4];rfl
   rw[hb]at hbg;injection hbg with hbg
   subst hbg;rcases Ey hb h5 with⟨h6,h7⟩|h6
   ·exact E.Zk h6 q h7 hq
   ·have:=E.hX.lt q hq;omega
 have hst:rest.all PV.bw=true->dZ w' w' (Mv u X) (br E {S with H:=bJ S.H id ⟨ak+1,.row e' k' es'⟩} (bJ L id u)):=by
  intro hall;refine(dZ.of fun _ hnm=>fun hq=>hnm ?_)
  rcases hq with⟨j,hj,hjl,hjb⟩|hq
  ·simp only at hj hjl
   by_cases hji:j=id
   ·subst hji;rw[bZ]at hjb;exact .inl hjb
   ·rw[cu _ _ hji]at hjl hjb;rcases hsup hall _ (.inl ⟨j,hj,hjl,hjb⟩)with hq|hq
    ·exact absurd (h.apart j id _ hj hN hjl hlive hjb hq) hji
    ·exact .inr hq
  ·rcases hsup hall _ (.inr hq)with hq'|hq'
   ·exact absurd hq' (hEX _ hq)
   ·exact .inr hq'
 obtain⟨h2,hs2,hg2⟩:=h.qA (w':=w') (hdr:=hfr.drawn) hN ⟨ak+1,.row e' k' es'⟩ u (.inr (by show(S.H id).ak<ak+1;omega)) hfr.os hfr.tape hfr.output hfr.size
  (fun q hq hne=>hfr.block q hq (hne hlive)) (fun q _ hq=>(hub q hq).imp (fun hb=>⟨hlive,hb⟩) (fun hb=>hb))
  (fun hs2 hg2=>⟨us',xC hown hown' h.fr.size hub,hk',by
   rcases hc3 with hpl|hall
   ·exact hru'.plain (zC hpl)
   ·exact hru'.mono (hst hall) (dX.le _)⟩)
 obtain⟨ad,n,c,hu⟩:=AF hown';refine⟨u,_,rfl,h2,?_⟩;subst hu;exact .own _ _ _ _ _ hN (by simp[St.gh,St.eO,bZ]) (fun _=>by simp[St.gh,St.eO,bZ])
theorem afy{f:FuncId}{m:Model}{e k:Nat}(hrow:∀args r es',m.rm [] args=some (r,es')->abE P f args e k es')(h:Rel E S a w L)(hn:nid<S.N){args:List PV}{vs:List Value}(hr:bg w (br E S L) (S.gh L) args vs)(he:Ed m e k nid S args=some (x,wr)):
  Calls P f vs.toArray w (fun en w'=>∃v L',en= .returned v/\Rel E (S.eO wr) a w' L'/\bm w' (br E (S.eO wr) L') ((S.eO wr).gh L') x v):=by
 unfold Ed at he;split at he
 case h_2=>cases he
 rename_i r es' hmm;split at he
 case isFalse=>cases he
 rename_i hcond;obtain⟨rfl,rfl⟩:=bV he;simp only[Qm,Qn]at hcond;obtain⟨hc2,hc3⟩:=hcond
 have key:∃X:Nat->Prop,tq w X/\bg w X dX (args.map (TQ.fz S.H none 9)) vs/\(args.all PV.bw=true->∀q,br E S L q->X q):=by
  by_cases hall:args.all PV.bw=true
  ·exact⟨br E S L,h.Oa fun q hq=>hq,hr.uX hall (fun q hq=>hq),fun _ q hq=>hq⟩
  ·exact⟨fun _=>False,h.x0,hr.fz h (fun q hq=>hq.elim) (fun j q hj hjl hne hjb hq=>hq),fun hq=>absurd hq hall⟩
 obtain⟨X,hX,hargs,hsup⟩:=key;refine(hrow _ r es' hmm w X hX vs hargs).mono ?_;rintro en w' ⟨u,rfl,⟨us',hown',hk',hru'⟩,hub,hfr⟩
 have hst:args.all PV.bw=true->dZ w' w' (Mv u X) (br E {S with H:=bJ S.H nid ⟨(S.H nid).ak+1,.row e k es'⟩} (bJ L nid u)):=by
  intro hall;refine(dZ.of fun _ hnm=>fun hq=>hnm ?_)
  rcases hq with⟨j,hj,hjl,hjb⟩|hq
  ·simp only at hj hjl
   by_cases hji:j=nid
   ·subst hji;rw[bZ]at hjb;exact .inl hjb
   ·rw[cu _ _ hji]at hjl hjb;exact .inr (hsup hall _ (.inl ⟨j,hj,hjl,hjb⟩))
  ·exact .inr (hsup hall _ (.inr hq))
 obtain⟨h2,hs2,hg2⟩:=h.qA (w':=w') (hdr:=hfr.drawn) hn ⟨(S.H nid).ak+1,.row e k es'⟩ u (.inr (Nat.lt_succ_self _)) hfr.os hfr.tape hfr.output hfr.size
  (fun q hq _=>hfr.block q hq (by simp)) (fun q _ hq=> .inr (hub q hq))
  (fun hs2 hg2=>⟨us',xC (v:= .slice none 0 0) (World.ownsRow_nil w _ _ _) hown' h.fr.size (fun g hg=> .inr (hub g hg)),hk',by
   rcases hc3 with hpl|hall
   ·exact hru'.plain (zC hpl)
   ·exact hru'.mono (hst hall) (dX.le _)⟩)
 obtain⟨ad,n,c,hu⟩:=AF hown';refine⟨u,_,rfl,h2,?_⟩;subst hu;exact .own _ _ _ _ _ hn (by simp[St.gh,St.eO,bZ]) (fun _=>by simp[St.gh,St.eO,bZ])
theorem ac8{f g:FuncId}{e k:Nat}{args:List PV}{es':List (List PV)}(hcon:abD P f g (args.map (TQ.fz S.H none 9)) e k es')(h:Rel E S a w L)(hn:nid<S.N){vs:List Value}(hr:bg w (br E S L) (S.gh L) args vs)
  (hc:(BI es'||args.all PV.bw)=true):
  Calls P f vs.toArray w fun en w1=>∃v,en= .returned v/\Calls P g #[v] w1 fun en w'=>∃u L',en= .returned u/\Rel E {S with H:=bJ S.H nid ⟨(S.H nid).ak+1,.row e k es'⟩} a w' L'/\
   bm w' (br E {S with H:=bJ S.H nid ⟨(S.H nid).ak+1,.row e k es'⟩} L') (St.gh {S with H:=bJ S.H nid ⟨(S.H nid).ak+1,.row e k es'⟩} L') (.own nid ((S.H nid).ak+1)) u:=by
 have key:∃X:Nat->Prop,tq w X/\bg w X dX (args.map (TQ.fz S.H none 9)) vs/\(args.all PV.bw=true->∀q,br E S L q->X q):=by
  by_cases hall:args.all PV.bw=true
  ·exact⟨br E S L,h.Oa fun q hq=>hq,hr.uX hall (fun q hq=>hq),fun _ q hq=>hq⟩
  ·exact⟨fun _=>False,h.x0,hr.fz h (fun q hq=>hq.elim) (fun j q hj hjl hne hjb hq=>hq),fun hq=>absurd hq hall⟩
 obtain⟨X,hX,hargs,hsup⟩:=key;refine(hcon w X hX vs hargs).mono ?_;rintro en w1 ⟨v,rfl,hcall⟩;refine⟨v,rfl,hcall.mono ?_⟩;rintro en w' ⟨u,rfl,⟨us',hown',hk',hru'⟩,hub,hfr⟩;rw[Qn]at hc
 have hst:args.all PV.bw=true->dZ w' w' (Mv u X) (br E {S with H:=bJ S.H nid ⟨(S.H nid).ak+1,.row e k es'⟩} (bJ L nid u)):=by
  intro hall;refine(dZ.of fun _ hnm=>fun hq=>hnm ?_)
  rcases hq with⟨j,hj,hjl,hjb⟩|hq
  ·simp only at hj hjl
   by_cases hji:j=nid
   ·subst hji;rw[bZ]at hjb;exact .inl hjb
   ·rw[cu _ _ hji]at hjl hjb;exact .inr (hsup hall _ (.inl ⟨j,hj,hjl,hjb⟩))
  ·exact .inr (hsup hall _ (.inr hq))
 obtain⟨h2,hs2,hg2⟩:=h.qA (w':=w') (hdr:=hfr.drawn) hn ⟨(S.H nid).ak+1,.row e k es'⟩ u (.inr (Nat.lt_succ_self _)) hfr.os hfr.tape hfr.output hfr.size
  (fun q hq _=>hfr.block q hq (by simp)) (fun q _ hq=> .inr (hub q hq))
  (fun hs2 hg2=>⟨us',xC (v:= .slice none 0 0) (World.ownsRow_nil w _ _ _) hown' h.fr.size (fun g hg=> .inr (hub g hg)),hk',by
   rcases hc with hpl|hall
   ·exact hru'.plain (zC hpl)
   ·exact hru'.mono (hst hall) (dX.le _)⟩)
 obtain⟨ad,n,c,hu⟩:=AF hown';refine⟨u,_,rfl,h2,?_⟩;subst hu;exact .own _ _ _ _ _ hn (by simp[St.gh,bZ]) (fun _=>by simp[St.gh,bZ])
theorem aeD{f:FuncId}{cs ds cs' ds':List PV}(hcon:abF P f (cs.map TQ.nz) (ds.map TQ.nz) cs' ds')(h:Rel E S a w L){i j v u:Nat}{x y:Value}(rx:bm w (br E S L) (S.gh L) (.ptr i v 0) x)(ry:bm w (br E S L) (S.gh L) (.ptr j u 0) y)
  (hi:(S.H i).ak=v) (hj:(S.H j).ak=u) (ci:(S.H i).c= .box cs) (cj:(S.H j).c= .box ds) (hne:i≠j) (k1:cs.all PV.closed=true) (k2:ds.all PV.closed=true):
  Calls P f #[x,y] w fun e w'=>∃L',e= .returned (.tuple #[])/\Rel E {S with H:=bJ (bJ S.H i ⟨v,.box cs'⟩) j ⟨u,.box ds'⟩} a w' L':=by
 obtain⟨hNi,_⟩:=rx.oI (show(S.gh L).V i=v from hi)
 obtain⟨hNj,_⟩:=ry.oI (show(S.gh L).V j=u from hj)
 obtain⟨b,hx,hLb⟩:=h.pH rx hi ci;obtain⟨c,hy,hLc⟩:=h.pH ry hj cj;obtain⟨b',cur,T,hL',hh,hr,hE⟩:=h.o6 hNi ci;rw[hLb]at hL';simp only[Value.pointer.injEq,Qf,Addr.mk.injEq]at hL';obtain⟨rfl,_⟩:=hL';obtain⟨c',cur2,T2,hL',hh2,hr2,hE2⟩:=h.o6 hNj cj;rw[hLc]at hL';simp only[Value.pointer.injEq,Qf,Addr.mk.injEq]at hL';obtain⟨rfl,_⟩:=hL';have li:(S.H i).c.live=true:=by rw[ci];rfl
 have lj:(S.H j).c.live=true:=by rw[cj];rfl
 have hbc:b≠c:=fun e=>hne (h.apart i j b hNi hNj li lj (by rw[hLb];rfl) (by rw[hLc,e];rfl))
 have mb:br E S L b:= .inl ⟨i,hNi,li,by rw[hLb];rfl⟩
 have mc:br E S L c:= .inl ⟨j,hNj,lj,by rw[hLc];rfl⟩
 subst hx hy;refine(hcon w (br E S L) b c T T2 cur.toList cur2.toList (h.Oa fun q hq=>hq) mb mc hbc (by simpa using hh) (by simpa using hh2) (hr.closed k1 fun q hq=>hq).nz (hr2.closed k2 fun q hq=>hq).nz).mono ?_
 rintro e w' ⟨us',vs',T',U',rfl,g1,g2,r1,r2,fr⟩;have hcw:c<w'.heap.size:=(Q8.1 g2).1;obtain⟨w1,hw1⟩:∃w1:World,w1={w' with heap:=w'.heap.setIfInBounds c (.cells cur2 T2 (0,0))}:=⟨_,rfl⟩
 have w1c:w1.heap[c]?=w.heap[c]?:=by rw[hw1,hh2];simp[Array.getElem?_setIfInBounds_self_of_lt hcw]
 have w1o:∀q,q≠c->w1.heap[q]?=w'.heap[q]?:=fun q hq=>by rw[hw1];exact Array.getElem?_setIfInBounds_ne (fun e=>hq e.symm)
 have w1s:w1.heap.size=w'.heap.size:=by rw[hw1];simp
 have hsub:∀q,br E {S with H:=bJ S.H i ⟨v,.box cs'⟩} (bJ L i (L i)) q->br E S L q:=by
  rintro q (⟨p,hp,hpl,hpb⟩|hq)
  ·simp only at hp hpl
   by_cases hpi:p=i
   ·subst hpi;rw[bZ]at hpb;exact .inl ⟨p,hp,li,hpb⟩
   ·rw[cu _ _ hpi]at hpl hpb;exact .inl ⟨p,hp,hpl,hpb⟩
  ·exact .inr hq
 have hst1:dZ w' w1 (br E S L) (br E {S with H:=bJ S.H i ⟨v,.box cs'⟩} (bJ L i (L i))):=by
  refine⟨fun p z hp hm=>⟨?_,fun hq=>hm (hsub _ hq)⟩,fun q es ck hq hm=>⟨?_,fun hq=>hm (hsub _ hq)⟩⟩
  ·rw[World.cell?_of_block (w1o _ fun e=>hm (by rw[e];exact mc))];exact hp
  ·rw[w1o _ fun e=>hm (by rw[e];exact mc)];exact hq
 obtain⟨h1,_,_⟩:=h.qA (w':=w1) (hdr:=by rw[hw1];exact fr.drawn) hNi ⟨v,.box cs'⟩ (L i) (.inl ⟨hi.symm,rfl,li⟩) (by rw[hw1];exact fr.os) (by rw[hw1];exact fr.tape) (by rw[hw1];exact fr.output) (by rw[w1s];exact fr.size)
  (fun q hq hb=>by
   by_cases hqc:q=c
   ·rw[hqc];exact w1c
   ·rw[w1o q hqc];exact fr.block q hq (fun e=>hb li (by rw[hLb,e];rfl)) hqc)
  (fun q _ hq=> .inl ⟨li,hq⟩)
  (fun _ _=>⟨b,us'.toArray,T',hLb,by rw[w1o b hbc];exact g1,hE,(r1.mono hst1 (dX.le _))⟩)
 have hsub2:∀q,br E {S with H:=bJ (bJ S.H i ⟨v,.box cs'⟩) j ⟨u,.box ds'⟩} (bJ (bJ L i (L i)) j (bJ L i (L i) j)) q->br E S L q:=by
  rintro q (⟨p,hp,hpl,hpb⟩|hq)
  ·simp only at hp hpl
   have hLp:bJ (bJ L i (L i)) j (bJ L i (L i) j) p=L p:=by
    unfold bJ;split
    ·rename_i e;rw[e];split
     ·rename_i e2;rw[e2]
     ·rfl
    ·split
     ·rename_i e;rw[e]
     ·rfl
   rw[hLp]at hpb
   by_cases hpj:p=j
   ·subst hpj;exact .inl ⟨p,hp,lj,hpb⟩
   ·rw[cu _ _ hpj]at hpl
    by_cases hpi:p=i
    ·subst hpi;exact .inl ⟨p,hp,li,hpb⟩
    ·rw[cu _ _ hpi]at hpl;exact .inl ⟨p,hp,hpl,hpb⟩
  ·exact .inr hq
 have hji:j≠i:=fun e=>hne e.symm
 have hLj:bJ L i (L i) j=L j:=cu _ _ hji;have hHj:bJ S.H i ⟨v,.box cs'⟩ j=S.H j:=cu _ _ hji
 obtain⟨h2,_,_⟩:=h1.qA (w':=w') (hdr:=by rw[hw1];exact DL.refl _) (id:=j) hNj ⟨u,.box ds'⟩ (bJ L i (L i) j) (.inl ⟨by simp only[hHj];exact hj.symm,rfl,by simp only[hHj];exact lj⟩) (by rw[hw1]) (by rw[hw1]) (by rw[hw1]) (by rw[w1s];exact QI _)
  (fun q hq hb=>(w1o q fun e=>hb (by simp only[hHj];exact lj) (by rw[hLj,hLc,e];rfl)).symm)
  (fun q _ hq=> .inl ⟨by simp only[hHj];exact lj,hq⟩)
  (fun _ _=>⟨c,vs'.toArray,U',by rw[hLj];exact hLc,g2,hE2,r2.mono (dZ.of fun q hm hq=>hm (hsub2 q hq)) (dX.le _)⟩)
 exact⟨_,rfl,h2⟩
theorem bg.ad9{M:Nat->Prop}{G:Gh}{args:List PV}{vs:List Value}(hr:bg w M G args vs){p:Nat}{y:PV}(hp:args[p]?=some y):
  ∃v0,bm w M G y v0/\bg w M G (cutAt p args) (cutAt p vs)/\iX p [v0] (cutAt p vs)=vs:=by
 obtain⟨v0,hv0,hrep⟩:=hr.get hp;refine⟨v0,hrep,(hr.take p).append (hr.drop (p+1)),?_⟩;have hlt:p<vs.length:=(Qw.1 hv0).1;have ht:(vs.take p).length=p:=by simp;omega
 have e1:(cutAt p vs).take p=vs.take p:=by
  unfold cutAt;rw[List.take_append_of_le_length (by omega)]
  rw[List.take_take,Nat.min_self]
 have e2:(cutAt p vs).drop p=vs.drop (p+1):=by
  unfold cutAt;rw[List.drop_append_of_le_length (by omega)]
  rw[List.drop_of_length_le (by omega),List.nil_append]
 unfold iX;rw[e1,e2]
 have h3:vs.drop p=v0::vs.drop (p+1):=by
  rw[QM hlt];congr 1;rw[Qv hlt]at hv0;injection hv0
 rw[QL,List.singleton_append,<-h3,List.take_append_drop]
theorem N4(hΓ:lR P Γ)(h:Rel E S a w L)(hn:nid<S.N){f:FuncId}{args:List PV}{vs:List Value}(hr:bg w (br E S L) (S.gh L) args vs)(he:kq Γ nid S f args=some (x,wr)):
  Enters P f/\Calls P f vs.toArray w (fun e w'=>∃v L',e= .returned v/\Rel E (S.eO wr) a w' L'/\bm w' (br E (S.eO wr) L') ((S.eO wr).gh L') x v):=by
 unfold kq at he;split at he
 ·cases he
 ·rename_i m hm;obtain⟨hen,hcon,hconN,hrow,hro⟩:=hΓ f m hm;refine⟨hen,?_⟩;split at he
  ·rename_i e k hrk;rw[Fx,hrk]at hrow;exact afN hrow h hr he
  ·rename_i e k hrk;rw[Fx,hrk]at hrow;exact afJ hrow h hr he
  ·rename_i e k hrk;rw[Fx,hrk]at hrow;exact afy hrow h hn hr he
  split at he
  ·rename_i hfresh;split at he
   ·rename_i r0 cs hmm;split at he
    ·rename_i hcond;obtain⟨rfl,rfl⟩:=bV he;simp only[Qm,Qn]at hcond;obtain⟨hc1,hc2⟩:=hcond
     have key:∃X:Nat->Prop,tq w X/\bg w X dX (args.map (TQ.fz S.H none 9)) vs/\(args.all PV.bw=true->∀q,br E S L q->X q):=by
      by_cases hall:args.all PV.bw=true
      ·exact⟨br E S L,h.Oa fun q hq=>hq,hr.uX hall (fun q hq=>hq),fun _ q hq=>hq⟩
      ·exact⟨fun _=>False,h.x0,hr.fz h (fun q hq=>hq.elim) (fun j q hj hjl hne hjb hq=>hq),fun hq=>absurd hq hall⟩
     obtain⟨X,hX,hargs,hsup⟩:=key;refine(hconN hfresh _ _ _ hmm w X hX vs hargs).mono ?_;rintro e w' ⟨b,rvs,T,rfl,hbge,hh,hrc,hfr⟩
     have hmq:args.all PV.bw=true->∀q,br E {S with H:=bJ S.H nid ⟨(S.H nid).ak+1,.box cs⟩} (bJ L nid (.pointer (some ⟨b,0,none⟩))) q->X q\/q=b:=by
      rintro hall q (⟨j,hj,hjl,hjb⟩|hq)
      ·simp only at hj hjl
       by_cases hji:j=nid
       ·subst hji;rw[bZ]at hjb;simp only[cW,Qf]at hjb;exact .inr hjb.symm
       ·rw[cu _ _ hji]at hjl hjb;exact .inl (hsup hall q (.inl ⟨j,hj,hjl,hjb⟩))
      ·exact .inl (hsup hall q (.inr hq))
     obtain⟨h2,hs2,hg2⟩:=h.qA (w':=w') (hdr:=hfr.drawn) hn ⟨(S.H nid).ak+1,.box cs⟩ (.pointer (some ⟨b,0,none⟩)) (.inr (Nat.lt_succ_self _)) hfr.os hfr.tape hfr.output hfr.size (fun q hq _=>hfr.block q hq (by simp))
      (fun q _ hq=> .inr (by simp only[cW,Qf]at hq;omega))
      (fun hs2 hg2=>⟨b,rvs.toArray,T,rfl,hh,.inr (QK h.fr.size hbge),by
       simp only;rcases hc2 with hpl|hall
       ·exact hrc.plain hpl
       ·exact hrc.mono (dZ.of fun _ hn' hq=>hn' (hmq hall _ hq)) (dX.le _)⟩)
     refine⟨_,_,rfl,h2,?_⟩;exact .ptr _ _ _ _ hn (by simp[St.gh,St.eO,bZ]) (fun _=>by simp[St.gh,St.eO,bZ,cW])
    ·cases he
   ·cases he
  rename_i hnf;have hnf':m.fresh=false:=by simpa using hnf
  have hcon:=hcon hnf';split at he
  ·rename_i hrecv;split at he
   ·rename_i id ak hpos;generalize hrest:cutAt m.pos args=rest at he;split at he
    ·rename_i hver;split at he
     ·rename_i cs hc;split at he
      ·rename_i hcl;split at he
       ·rename_i r cs' hmm;split at he
        ·rename_i hcond;obtain⟨rfl,rfl⟩:=bV he
         have hwr:S.eO (if(m.ro&&cs.all PV.R7)=true then none else some (id,(⟨ak,.box cs'⟩:fE)))=S.eO (some (id,⟨ak,.box cs'⟩)):=by
          split
          ·rename_i hq;rw[Qm]at hq
           have e1:cs.map TQ.nz=cs:=by
            rw[Qq70 (g:=fun y=>y) fun y hy=>by have:=QH.1 hq.2 y hy;cases y<;>first|rfl|cases this]
            simp
           have e2:=hro hq.1 _ _ _ _ hmm;rw[e1]at e2;rw[e2];show S={S with H:=bJ S.H id ⟨ak,.box cs⟩}
           have e3:(⟨ak,.box cs⟩:fE)=S.H id:=by rw[<-hver,<-hc]
           rw[e3]
           have e4:bJ S.H id (S.H id)=S.H:=by
            funext j;unfold bJ;split
            ·rename_i e;rw[e]
            ·rfl
           rw[e4]
          ·rfl
         rw[hwr];simp only[Qm,Qn]at hcond;obtain⟨⟨⟨hc1,hc2⟩,hc3⟩,hc4⟩:=hcond;obtain⟨v0,r0,hr',hins⟩:=hr.ad9 hpos;rw[hrest]at hr';generalize cutAt m.pos vs=vs' at hr' hins;obtain⟨hN,_⟩:=r0.oI (show(S.gh L).V id=ak from hver)
         obtain⟨b,hv0,hL⟩:=h.pH r0 hver hc;obtain⟨b',cur,T,hL',hh,hrc,hE⟩:=h.o6 hN hc;rw[hL]at hL';simp only[Value.pointer.injEq,Qf,Addr.mk.injEq]at hL';obtain⟨rfl,_⟩:=hL';have hmb:br E S L b:= .inl ⟨id,hN,by rw[hc];rfl,by rw[hL];rfl⟩
         have key:∃X:Nat->Prop,tq w X/\(∀q,Mc true b X q->br E S L q)/\bg w (Mc true b X) dX (rest.map (TQ.fz S.H (some id) 9)) vs'/\(rest.all PV.bw=true->∀q,br E S L q->Mc true b X q):=by
          by_cases hall:rest.all PV.bw=true
          ·refine⟨br E S L,h.Oa fun q hq=>hq,fun q hq=> ?_,?_,fun _ q hq=> .inr hq⟩
           ·rcases hq with⟨_,rfl⟩|hq
            ·exact hmb
            ·exact hq
           ·exact hr'.uX hall (fun q hq=>by
             rcases hq with⟨_,rfl⟩|hq
             ·exact hmb
             ·exact hq)
          ·refine⟨fun _=>False,h.x0,fun q hq=> ?_,?_,fun hq=>absurd hq hall⟩
           ·rcases hq with⟨_,rfl⟩|hq
            ·exact hmb
            ·exact hq.elim
           ·refine hr'.fz h (fun q hq=> ?_) (fun j q hj hjl hne hjb hq=> ?_)
            ·rcases hq with⟨_,rfl⟩|hq
             ·exact hmb
             ·exact hq.elim
            ·rcases hq with⟨_,rfl⟩|hq
             ·exact hne (by rw[h.apart j id q hj hN hjl (by rw[hc];rfl) hjb (by rw[hL];rfl)])
             ·exact hq
         obtain⟨X,hX,hsub,hargs,hsup⟩:=key;have hcall:=hcon (cs.map TQ.nz) (rest.map (TQ.fz S.H (some id) 9)) r cs' hmm w X hX b T cur.toList vs' (fun _=>⟨by simpa using hh,by rw[hrecv];exact(hrc.closed hcl hsub).nz,Ia h hmb⟩) (by rw[hrecv];exact hargs)
         rw[hrecv]at hcall;have hargsv:(iX m.pos (tc true b) vs').toArray=vs.toArray:=by rw[<-hins,hv0];rfl
         rw[hargsv]at hcall;refine hcall.mono ?_;rintro e w' ⟨v,rvs',rfl,hrep,hrv,hfr⟩;obtain⟨⟨T',hh'⟩,hrc'⟩:=hrv rfl;simp only[Qt]at hfr
         have hmm':∀q,br E {S with H:=bJ S.H id ⟨ak,.box cs'⟩} (bJ L id (L id)) q->br E S L q:=by
          rintro q (⟨j,hj,hjl,hjb⟩|hq)
          ·simp only at hj hjl;have:bJ L id (L id) j=L j:=by by_cases hji:j=id<;>simp[bJ,hji]
           rw[this]at hjb
           by_cases hji:j=id
           ·subst hji;exact .inl ⟨j,hj,by rw[hc];rfl,hjb⟩
           ·rw[cu _ _ hji]at hjl;exact .inl ⟨j,hj,hjl,hjb⟩
          ·exact .inr hq
         have hst:rest.all PV.bw=true->dZ w' w' (Mc true b X) (br E {S with H:=bJ S.H id ⟨ak,.box cs'⟩} (bJ L id (L id))):=fun hall=>(dZ.of fun _ hnm=>fun hq=>hnm (hsup hall _ (hmm' _ hq)))
         obtain⟨h2,hs2,hg2⟩:=h.qA (w':=w') (hdr:=hfr.drawn) hN ⟨ak,.box cs'⟩ (L id) (.inl ⟨hver.symm,rfl,by rw[hc];rfl⟩) hfr.os hfr.tape hfr.output hfr.size
          (fun q hq hne=>hfr.block q hq (fun eq=>hne (by rw[hc];rfl) (by rw[hL];exact eq)))
          (fun q _ hq=> .inl ⟨by rw[hc];rfl,hq⟩)
          (fun hs2 hg2=>⟨b,rvs'.toArray,T',hL,hh',hE,by
           simp only;rcases hc4 with hpl|hall
           ·exact hrc'.plain hpl
           ·exact hrc'.mono (hst hall) (dX.le _)⟩)
         refine⟨v,_,rfl,h2,?_⟩;rcases hc1 with hpl|hall
         ·exact hrep.tT hpl
         ·exact hrep.mono (hst hall) (dX.le _)
        ·cases he
       ·cases he
      ·cases he
     ·cases he
    ·cases he
   ·cases he
  ·rename_i hrecv;split at he
   ·rename_i r cs' hmm;split at he
    ·rename_i hcond;obtain⟨rfl,rfl⟩:=bV he;simp only[Qn,Qm]at hcond;have hrecv':m.recv=false:=by simpa using hrecv
     have key:∃X:Nat->Prop,tq w X/\bg w (Mc false 0 X) dX (args.map (TQ.fz S.H none 9)) vs/\(args.all PV.bw=true->∀q,br E S L q->Mc false 0 X q):=by
      by_cases hall:args.all PV.bw=true
      ·refine⟨br E S L,h.Oa fun q hq=>hq,?_,fun _ q hq=> .inr hq⟩
       exact hr.uX hall (fun q hq=>by
        rcases hq with⟨hq,_⟩|hq
        ·cases hq
        ·exact hq)
      ·refine⟨fun _=>False,h.x0,?_,fun hq=>absurd hq hall⟩
       refine hr.fz h (fun q hq=> ?_) (fun j q hj hjl hne hjb hq=> ?_)
       ·rcases hq with⟨hq,_⟩|hq
        ·cases hq
        ·exact hq.elim
       ·rcases hq with⟨hq,_⟩|hq
        ·cases hq
        ·exact hq
     obtain⟨X,hX,hargs,hsup⟩:=key;have hcall:=hcon [] (args.map (TQ.fz S.H none 9)) r cs' hmm w X hX 0 0 [] vs (fun hq=>by rw[hrecv']at hq;cases hq) (by rw[hrecv'];exact hargs)
     rw[hrecv']at hcall;simp only[tc,Qq,Qu,OM]at hcall;refine hcall.mono ?_;rintro e w' ⟨v,rvs',rfl,hrep,_,hfr⟩;simp only[Qq,Qu]at hfr;obtain⟨h2,hs2⟩:=h.grow (w':=w') hfr.os hfr.tape hfr.output hfr.size (fun q hq=>hfr.block q hq (by simp)) hfr.drawn
     refine⟨v,L,rfl,h2,?_⟩;rcases hcond with hpl|⟨hall,_⟩
     ·exact hrep.tT hpl
     ·exact hrep.mono (dZ.of fun _ hnm=>fun hq=>hnm (hsup hall _ hq)) (dX.le _)
    ·cases he
   ·cases he
end
end
section
open Go.RowKit
section
variable {P : Program} {E : En} {S : St} {a : Act} {w : World} {L : Nat -> Value} {o : Oper} {x : PV} {wr : Option (Nat × fE)} {Γ : mR} {nid : Nat} {hs : List Nat}
theorem Eo{α:Type}(f:Nat->α)(i:Nat):bJ f i (f i)=f:=by
 funext j;unfold bJ;split
 ·rename_i h;rw[h]
 ·rfl
theorem Rel.kill(h:Rel E S a w L){id:Nat}(hid:id<S.N)(hl:(S.H id).c.live=true):Rel E {S with H:=bJ S.H id ⟨(S.H id).ak,.dead⟩} a w L:=by
 have:=(h.qA (w':=w) hid ⟨(S.H id).ak,.dead⟩ (L id) (.inl ⟨rfl,rfl,hl⟩) rfl rfl rfl (QI _) (fun _ _ _=>rfl) (fun b hl=>by cases hl) (fun _ _=>trivial)).1
 rwa [Eo]at this
theorem Rel.afw(h:Rel E S a w L){id e k:Nat}{es:List (List PV)}(hN:id<S.N)(hc:(S.H id).c= .row e k es)(hcl:∀u∈es,u.all PV.closed=true):
  Rel E {S with H:=bJ S.H id ⟨(S.H id).ak,.dead⟩} a w L/\∀v,v=L id->bm w (br E {S with H:=bJ S.H id ⟨(S.H id).ak,.dead⟩} L) (St.gh {S with H:=bJ S.H id ⟨(S.H id).ak,.dead⟩} L) (.sl es) v:=by
 have hlive:(S.H id).c.live=true:=by rw[hc];rfl
 refine⟨h.kill hN hlive,fun v hv=> ?_⟩
 obtain⟨vs,hown,hk,hr⟩:=h.jt hN hc;rw[hv]
 have hM:∀b,br E {S with H:=bJ S.H id ⟨(S.H id).ak,.dead⟩} L b->br E S L b/\(cW (L id)=some b->E.X b):=by
  rintro b (⟨j,hj,hlv,hb⟩|hx)
  ·simp only at hj hlv
   by_cases hji:j=id
   ·subst hji;rw[bZ]at hlv;cases hlv
   ·rw[cu _ _ hji]at hlv;exact⟨.inl ⟨j,hj,hlv,hb⟩,fun hb'=>absurd (h.apart j id b hj hN hlv hlive hb hb') hji⟩
  ·exact⟨.inr hx,fun _=>hx⟩
 rcases hown.2 with⟨hL,h0⟩|⟨g,cap,cur,hL,hb1,hh,hnc,hcm,_⟩
 ·have:es=[]:=Qq66 h0;subst this;rw[hL];exact .slnil
 ·rw[hL]
  have hcf:es.flatten.all PV.closed=true:=by
   refine QH.2 fun y hy=> ?_
   obtain⟨u,hu,hyu⟩:=List.mem_flatten.1 hy;exact QH.1 (hcl u hu) y hyu
  have hr2:=bg.closed (M':=br E {S with H:=bJ S.H id ⟨(S.H id).ak,.dead⟩} L) (G':=dX) hcf (fun b hb=>(hM b hb).1) hr
  refine .sl _ _ _ k vs hk hr2.1 (fun i u hu=>⟨hown.cells (g:=g) (by rw[hL];rfl) i u hu,fun hm=> ?_⟩) hr2.2 (by simpa using hnc) hcm
  have hxg:=(hM g hm).2 (by rw[hL];rfl)
  have hbg:cW (L id)=some g:=by rw[hL];rfl
  rcases Ey hbg hb1 with⟨h6,h7⟩|h6
  ·exact E.Zk h6 g h7 hxg
  ·have:=E.hX.lt g hxg;omega
theorem Rel.CT(h:Rel E S a w L){id e k:Nat}{es:List (List PV)}{v:Value}(r:bm w (br E S L) (S.gh L) (.own id (S.H id).ak) v)(hc:(S.H id).c= .row e k es)(hcl:∀u∈es,u.all PV.closed=true):
  Rel E {S with H:=bJ S.H id ⟨(S.H id).ak,.dead⟩} a w L/\bm w (br E {S with H:=bJ S.H id ⟨(S.H id).ak,.dead⟩} L) (St.gh {S with H:=bJ S.H id ⟨(S.H id).ak,.dead⟩} L) (.sl es) v:=by
 obtain⟨hN,hv⟩:=r.mj (show(S.gh L).V id=(S.H id).ak from rfl)
 obtain⟨h1,h2⟩:=h.afw hN hc hcl;exact⟨h1,h2 v hv⟩
theorem abq{e k b:Nat}{s y:bn}(he:exec Γ nid S (.cY true e k b s y)=some (x,wr)):∃id ak es,exec Γ nid S (.cY false e k b s y)=some (.own id ak,some (id,⟨ak,.row e k es⟩))/\x= .sl es/\wr=some (id,⟨ak,.dead⟩)/\∀u∈es,u.all PV.closed=true:=by
 have key:∀{id ak:Nat} {es:List (List PV)},HD true id ak e k es=some (x,wr)->∃id' ver' es',HD false id ak e k es=some (.own id' ver',some (id',⟨ver',.row e k es'⟩))/\x= .sl es'/\wr=some (id',⟨ver',.dead⟩)/\∀u∈es',u.all PV.closed=true:=by
  intro id ak es h;simp only[HD]at h;split at h
  ·rename_i hall;obtain⟨rfl,rfl⟩:=bV h;exact⟨id,ak,es,rfl,rfl,rfl,fun u hu=>QH.1 hall u hu⟩
  ·cases h
 simp only[exec]at he ⊢;split at he
 ·rename_i news hn;split at he
  ·rename_i hall;simp only[hall,Qt];split at he
   ·split at he
    ·rename_i hb;rw[Qr hb];exact key he
    ·cases he
   ·rename_i id ak hv;split at he
    ·rename_i hver;rw[Qr hver];split at he
     ·rename_i e' k' es hc;split at he
      ·rename_i hb;simp only[Qr hb];exact key he
      ·cases he
     ·cases he
    ·cases he
   ·cases he
  ·cases he
 ·cases he
theorem Good.CT{id ak e k:Nat}{es:List (List PV)}(h:Good P E S a w o (.own id ak) (some (id,⟨ak,.row e k es⟩)))(hcl:∀u∈es,u.all PV.closed=true):Good P E S a w o (.sl es) (some (id,⟨ak,.dead⟩)):=by
 obtain⟨nx,w',L',v,h1,h2,h3,h4⟩:=h;have hH:(S.eO (some (id,⟨ak,.row e k es⟩))).H id=⟨ak,.row e k es⟩:=bZ _ _ _;have hv:((S.eO (some (id,⟨ak,.row e k es⟩))).H id).ak=ak:=by rw[hH]
 have hc:((S.eO (some (id,⟨ak,.row e k es⟩))).H id).c= .row e k es:=by rw[hH]
 generalize hS:S.eO (some (id,⟨ak,.row e k es⟩))=S1 at h3 h4 hH hv hc;rw[<-hv]at h3;obtain⟨g1,g2⟩:=h4.CT h3 hc hcl;rw[hv,<-hS]at g1 g2
 have e1:({S.eO (some (id,⟨ak,.row e k es⟩))with H:=bJ (S.eO (some (id,⟨ak,.row e k es⟩))).H id ⟨ak,.dead⟩}:St)=S.eO (some (id,⟨ak,.dead⟩)):=by
  unfold St.eO;simp only[St.mk.injEq,true_and,and_true]
  funext j
  unfold bJ;split<;>rfl
 rw[e1]at g1 g2;exact⟨nx,w',L',v,h1,h2,g2,g1⟩
theorem nH{f:FuncId}(hen:Enters P f)(args:Array Value):(callFunc f args).run P w= .ok (.enter f args) w:=by
 obtain⟨fn,hf,hb,hn⟩:=hen;have hb':¬fn.body=none:=by intro e;rw[e]at hb;cases hb
 have hn':¬fn.name= "runtime.NumGoroutine":=by simpa using hn
 simp[callFunc,program,Sem.run,hf,hb',hn']
theorem N3{f:FuncId}{args:Array Value}(hrun:(execOp a.eval o).run P w= .ok (.enter f args) w)
  (hcall:Calls P f args w (fun e w'=>∃v L',e= .returned v/\Rel E (S.eO wr) a w' L'/\bm w' (br E (S.eO wr) L') ((S.eO wr).gh L') x v)) (hnd:Iu o) (hd:∀t,o.dst=some t->E.can t) {K:Act->World->Prop} {Q:Exit->Act->World->Prop}
  (hK:∀a' w' L',Rel E (S.cY o.dst x wr) a' w' L'->K a' w'):o.wpIn (WF E.rd) 0 P a w K Q:=by
 unfold Oper.wpIn;rw[Oper.semAt_eq _ _ _ hnd,hrun];refine⟨fun _ _=>trivial,(fun h=>by cases h),xY.2 (Calls.mono hcall ?_)⟩
 rintro e w' ⟨v,L',rfl,h1,h2⟩;exact hK _ _ _ (show Rel E (S.cY o.dst x wr) (a.put o.dst v) w' L' from h1.Wz hd h2)
theorem B3{f:FuncId}{xs:List bn}(hc:Ea P hs o=some (.call f xs)):∃(args:Array Operand) (ats:Array TypeId),o.op= .call {callee:= .value (.func f),args:=args,argTypes:=ats}/\args.toList.mapM bd=some xs:=by
 unfold Ea at hc;split at hc
 case h_22 fop args ats hop=>
  simp only[Qd,Qc]at hc;obtain⟨ys,hys,hc⟩:=hc;split at hc
  ·injection hc with hc
   injection hc with h1 h2
   subst h1 h2;exact⟨_,_,hop,hys⟩
  ·simp only[Qc,Qf,reduceCtorEq,and_false,exists_false]at hc
 all_goals (repeat' split at hc)<;>(try simp only[Qd,Qc,Qf,reduceCtorEq,and_false,exists_false]at hc)<;>(try (obtain⟨_,_,hc⟩:=hc))<;>(try (obtain⟨_,_,hc⟩:=hc))<;>(try (obtain⟨_,_,hc⟩:=hc))<;>(repeat' split at hc)<;>(try simp only[Qd,Qc,Qf,reduceCtorEq,and_false,exists_false]at hc)<;>cases hc
theorem sO{s:bS}(hc:Ea P hs o=some s):Iu o:=by
 intro c e;unfold Ea at hc;rw[e]at hc;cases hc
theorem Xh(hΓ:lR P Γ){s:bS}(hc:Ea P hs o=some s)(h:Rel E S a w L)(hn:nid<S.N)(he:exec Γ nid S s=some (x,wr))(hd:∀t,o.dst=some t->E.can t){K:Act->World->Prop}{Q:Exit->Act->World->Prop}
  (hK:∀a' w' L',Rel E (S.cY o.dst x wr) a' w' L'->K a' w'):o.wpIn (WF E.rd) 0 P a w K Q:=by
 have hnd:Iu o:=sO hc;unfold Ea at hc;split at hc
 case h_1 y hop=>
  simp only[Qd,Qc,Qf]at hc;obtain⟨y',hy,rfl⟩:=hc;simp only[exec]at he;obtain⟨rfl,rfl⟩:=bV he;exact(ab5 h (.inl hop) hy).wp hnd hd hK
 case h_2 y hop=>
  simp only[Qd,Qc,Qf]at hc;obtain⟨y',hy,rfl⟩:=hc;simp only[exec]at he;obtain⟨rfl,rfl⟩:=bV he;exact(ab5 h (.inr hop) hy).wp hnd hd hK
 case h_3 c y z hop=>
  simp only[Qd,Qc,Qf]at hc;obtain⟨c',hc',y',hy,z',hz,rfl⟩:=hc;exact(afp h hop hc' hy hz he).wp hnd hd hK
 case h_4 t y hop=>
  simp only[Qd,Qc,Qf]at hc;obtain⟨y',hy,rfl⟩:=hc;split at he
  ·split at he
   ·exact(afu h hop hy he).wp hnd hd hK
   ·exact(ab8 h hn hop hy he).wp hnd hd hK
  ·exact(ab8 h hn hop hy he).wp hnd hd hK
 case h_5 t hop=>
  simp only[Qd,Qc,Qf]at hc;obtain⟨z,hz,rfl⟩:=hc;exact(adN h hn hop hz he).wp hnd hd hK
 case h_6 t y hop=>
  simp only[Qd,Qc,Qf]at hc;obtain⟨n,hn',y',hy,rfl⟩:=hc;exact(afq h hop hn' hy he).wp hnd hd hK
 case h_7 t y z hop=>
  simp only[Qd,Qc,Qf]at hc;obtain⟨i,hi,y',hy,z',hz,rfl⟩:=hc;exact(adJ h hop hi hy hz he).wp hnd hd hK
 case h_8 t parts hop=>
  split at hc
  ·rename_i fields hu;simp only[Qd,Qc,Qf]at hc;obtain⟨z,hz,places,hp,ps,hps,rfl⟩:=hc;exact(VA h hop hz (.inl ⟨fields,places,hu,hp,hps⟩) he).wp hnd hd hK
  ·rename_i n e hu;simp only[Qd,Qc,Qf]at hc;obtain⟨z,hz,i,hi,ps,hps,rfl⟩:=hc;exact(VA h hop hz (.inr ⟨n,e,i,hu,hi,hps⟩) he).wp hnd hd hK
  ·cases hc
 case h_9 t len parts hop=>
  split at hc
  ·rename_i e hu;simp only[Qd,Qc]at hc;obtain⟨i,hi,z,hz,ps,hps,hc⟩:=hc;split at hc
   ·rename_i hb;injection hc with hc
    subst hc;exact(agR h hn hop hu hi hz hps hb.1 hb.2.1 hb.2.2 he).wp hnd hd hK
   ·cases hc
  ·cases hc
 case h_10 s0 y f hop=>
  split at hc
  ·rename_i fields hu;simp only[Qd,Qc]at hc;obtain⟨fd,hf,i,hi,hc⟩:=hc;split at hc
   ·cases hc
   ·rename_i h0;simp only[Qc,Qf]at hc;obtain⟨y',hy,rfl⟩:=hc;exact(adM h hop hu hf hi h0 hy he).wp hnd hd hK
  ·cases hc
 case h_11 t y z hop=>
  split at hc
  ·rename_i e hu;simp only[Qd,Qc,Qf]at hc;obtain⟨i,hi,y',hy,z',hz,rfl⟩:=hc;exact(adL h hop hu hi hy hz he).wp hnd hd hK
  ·rename_i n e hu;simp only[Qd,Qc,Qf]at hc;obtain⟨i,hi,y',hy,z',hz,rfl⟩:=hc;exact(adO h hop hu hi hy hz he).wp hnd hd hK
  ·cases hc
 case h_12 op t y z t2 hop=>
  split at hc
  ·rename_i fs hu;split at hc
   ·rename_i f g hfs;split at hc
    ·rename_i k0 hf hg;split at hc
     ·rename_i hb;obtain⟨b1,b2,b3,b4,b5,b6⟩:=hb;split at hc
      ·simp only[Qd,Qc,Qf]at hc;obtain⟨y',hy,z',hz,rfl⟩:=hc;exact(ab7 (neg:=false) h (by simpa using hop) hu hfs hf hg b1 b2 b3 b4 b5 b6 hy hz he).wp hnd hd hK
      ·simp only[Qd,Qc,Qf]at hc;obtain⟨y',hy,z',hz,rfl⟩:=hc;exact(ab7 (neg:=true) h (by simpa using hop) hu hfs hf hg b1 b2 b3 b4 b5 b6 hy hz he).wp hnd hd hK
      ·cases hc
     ·cases hc
    ·split at hc
     ·rename_i ks hks;split at hc
      ·rename_i hgu;split at hc
       ·simp only[Qd,Qc,Qf]at hc;obtain⟨y',hy,z',hz,rfl⟩:=hc;exact(P4 (neg:=false) h (by simpa using hop) hu hks hgu hy hz he).wp hnd hd hK
       ·simp only[Qd,Qc,Qf]at hc;obtain⟨y',hy,z',hz,rfl⟩:=hc;exact(P4 (neg:=true) h (by simpa using hop) hu hks hgu hy hz he).wp hnd hd hK
       ·cases hc
      ·cases hc
     ·cases hc
   ·split at hc
    ·rename_i ks hks;split at hc
     ·rename_i hgu;split at hc
      ·simp only[Qd,Qc,Qf]at hc;obtain⟨y',hy,z',hz,rfl⟩:=hc;exact(P4 (neg:=false) h (by simpa using hop) hu hks hgu hy hz he).wp hnd hd hK
      ·simp only[Qd,Qc,Qf]at hc;obtain⟨y',hy,z',hz,rfl⟩:=hc;exact(P4 (neg:=true) h (by simpa using hop) hu hks hgu hy hz he).wp hnd hd hK
      ·cases hc
     ·cases hc
    ·cases hc
  ·rename_i e hu;split at hc
   ·split at hc
    ·simp only[Qd,Qc,Qf]at hc;obtain⟨y',hy,rfl⟩:=hc;exact(Vz (neg:=false) h (by simpa using hop) hu hy he).wp hnd hd hK
    ·simp only[Qd,Qc,Qf]at hc;obtain⟨y',hy,rfl⟩:=hc;exact(Vz (neg:=true) h (by simpa using hop) hu hy he).wp hnd hd hK
    ·cases hc
   ·cases hc
  ·rename_i hu;split at hc
   ·simp only[Qd,Qc,Qf]at hc;obtain⟨y',hy,z',hz,rfl⟩:=hc;exact(ab6 (neg:=false) h (by simpa using hop) hu hy hz he).wp hnd hd hK
   ·simp only[Qd,Qc,Qf]at hc;obtain⟨y',hy,z',hz,rfl⟩:=hc;exact(ab6 (neg:=true) h (by simpa using hop) hu hy hz he).wp hnd hd hK
   ·cases hc
  ·rename_i hu;split at hc
   ·simp only[Qd,Qc,Qf]at hc;obtain⟨y',hy,z',hz,rfl⟩:=hc;exact(afo h hop hy hz he).wp hnd hd hK
   ·simp only[Qd,Qc,Qf]at hc;obtain⟨y',hy,z',hz,rfl⟩:=hc;exact(ab9 h hop hy hz he).wp hnd hd hK
  ·rename_i ms hu;split at hc
   ·split at hc
    ·simp only[Qd,Qc,Qf]at hc;obtain⟨y',hy,rfl⟩:=hc;exact(Zp (neg:=false) h (by simpa using hop) hu hy he).wp hnd hd hK
    ·simp only[Qd,Qc,Qf]at hc;obtain⟨y',hy,rfl⟩:=hc;exact(Zp (neg:=true) h (by simpa using hop) hu hy he).wp hnd hd hK
    ·cases hc
   ·cases hc
  ·simp only[Qd,Qc,Qf]at hc;obtain⟨y',hy,z',hz,rfl⟩:=hc;exact(ab9 h hop hy hz he).wp hnd hd hK
 case h_13 t y hop=>
  simp only[Qd,Qc,Qf]at hc;obtain⟨y',hy,rfl⟩:=hc;exact(agH h hop hy he).wp hnd hd hK
 case h_14 src dst y hop=>
  split at hc
  ·rename_i k0 k hs ht;simp only[Qd,Qc,Qf]at hc;obtain⟨y',hy,rfl⟩:=hc;exact(aft h hop hs ht hy he).wp hnd hd hK
  ·rename_i e hs ht;split at hc
   ·rename_i hb;simp only[Qd,Qc,Qf]at hc;obtain⟨y',hy,rfl⟩:=hc;exact(agS h hop hs hb ht hy he).wp hnd hd hK
   ·cases hc
  ·cases hc
 case h_15 t y z hop=>
  split at hc
  ·rename_i hu;simp only[Qd,Qc,Qf]at hc;obtain⟨y',hy,z',hz,rfl⟩:=hc;exact(afn h hop hu hy hz he).wp hnd hd hK
  ·rename_i len e hu;simp only[Qd,Qc,Qf]at hc;obtain⟨n,hn,i,hi,y',hy,z',hz,rfl⟩:=hc;exact(afv h hop hu hn hi hy hz he).wp hnd hd hK
  ·cases hc
 case h_16 t y z ok hop=>
  injection hc with hc
  subst hc;cases he
 case h_17 y hop=>
  simp only[Qd,Qc,Qf]at hc;obtain⟨y',hy,rfl⟩:=hc;exact(adK h hop hy he).wp hnd hd hK
 case h_18 y i hop=>
  simp only[Qd,Qc,Qf]at hc;obtain⟨y',hy,rfl⟩:=hc;exact(afs h hop hy he).wp hnd hd hK
 case h_19 f first caps hop=>
  split at hc
  ·rename_i h0;simp only[Qd,Qc,Qf]at hc;obtain⟨cs,hcs,rfl⟩:=hc;exact(agM h hop h0 hcs he).wp hnd hd hK
  ·split at hc
   ·rename_i h0;simp only[Qd,Qc,Qf]at hc;obtain⟨cs,hcs,rfl⟩:=hc;exact(agN h hop h0 hcs he).wp hnd hd hK
   ·cases hc
 case h_20 t l c hop=>
  split at hc
  ·rename_i e hu;simp only[Qd,Qc]at hc;obtain⟨i,hi,hc⟩:=hc;split at hc
   ·rename_i h0;simp only[Qc,Qf]at hc;obtain⟨z,hz,l',hl,c',hc',rfl⟩:=hc;exact(agJ h hn hop hu hi h0 hz hl hc' he).wp hnd hd hK
   ·cases hc
  ·cases hc
 case h_21 t y lo hi hop=>
  split at hc
  ·rename_i e hu;simp only[Qd,Qc,Qf]at hc;obtain⟨i,hi0,y',hy,lo',hlo,hi',hhi,rfl⟩:=hc;exact(agG h hop hu hi0 hy hlo hhi he).wp hnd hd hK
  ·rename_i hu;split at hc
   ·cases hc
   ·simp only[Qd,Qc,Qf]at hc;obtain⟨y',hy,l',hl,rfl⟩:=hc;exact(Te h hop hu hy (.inl ⟨_,_,rfl,rfl,hl,rfl⟩) he).wp hnd hd hK
   ·simp only[Qd,Qc,Qf]at hc;obtain⟨y',hy,l',hl,rfl⟩:=hc;exact(Te h hop hu hy (.inr (.inl ⟨_,_,rfl,rfl,hl,rfl⟩)) he).wp hnd hd hK
   ·simp only[Qd,Qc,Qf]at hc;obtain⟨y',hy,l',hl,m',hm,rfl⟩:=hc;exact(Te h hop hu hy (.inr (.inr ⟨_,_,_,_,rfl,rfl,hl,hm,rfl⟩)) he).wp hnd hd hK
  ·cases hc
 case h_22 fop args ats hop=>
  simp only[Qd,Qc]at hc;obtain⟨xs,hxs,hc⟩:=hc;have hr:=h.dj hxs;have ha:args.map a.eval=(args.toList.map a.eval).toArray:=by rw[<-Array.toList_map,Array.toArray_toList]
  split at hc
  ·rename_i f;injection hc with hc
   subst hc;simp only[exec]at he;obtain⟨hen,hcall⟩:=N4 hΓ h hn hr he;exact N3 (by simp[execOp,hop,resolve,Act.eval,Deferred.ofValue,invoke,ha,nH hen]) hcall hnd hd hK
  ·simp only[Qc,Qf]at hc;obtain⟨fv,hfv,rfl⟩:=hc;have rf:=h.fj hfv;simp only[exec]at he;split at he
   ·rename_i f caps ef;rw[ef]at rf;obtain⟨vs,hv,hrc⟩:=rf.zg;obtain⟨hen,hcall⟩:=N4 hΓ h hn (hr.append hrc) he;refine N3 ?_ hcall hnd hd hK;simp only[execOp,hop,resolve,hv,Deferred.ofValue,Sem.run_bind,Sem.run_pure,Result.andThen_ok,invoke,ha];simp[nH hen]
   ·rename_i f caps ef;rw[ef]at rf;obtain⟨vs,hv,hrc⟩:=rf.N5;obtain⟨hen,hcall⟩:=N4 hΓ h hn (hrc.append hr) he;refine N3 ?_ hcall hnd hd hK;simp only[execOp,hop,resolve,hv,Deferred.ofValue,Sem.run_bind,Sem.run_pure,Result.andThen_ok,invoke,ha];simp[nH hen]
   ·cases he
 case h_23 b args ats hop=>
  split at hc
  ·rename_i y t hargs hats;have ha:args=#[y]:=by rw[<-Array.toArray_toList (xs:=args),hargs]
   have hb:ats=#[t]:=by rw[<-Array.toArray_toList (xs:=ats),hats]
   subst ha hb;split at hc
   ·rename_i hu;simp only[Qd,Qc,Qf]at hc;obtain⟨y',hy,rfl⟩:=hc;exact(afr h hop hu hy he).wp hnd hd hK
   ·rename_i e hu;simp only[Qd,Qc,Qf]at hc;obtain⟨y',hy,rfl⟩:=hc;exact(agO h hop hu hy he).wp hnd hd hK
   ·cases hc
  ·rename_i y z t t' hargs hats;have ha:args=#[y,z]:=by rw[<-Array.toArray_toList (xs:=args),hargs]
   have hb:ats=#[t,t']:=by rw[<-Array.toArray_toList (xs:=ats),hats]
   subst ha hb;split at hc
   ·rename_i e hu;simp only[Qd,Qc]at hc;obtain⟨i,hi,zv,hzv,hc⟩:=hc;split at hc
    ·rename_i hb;obtain⟨rfl,b2,b3⟩:=hb;simp only[Qc,Qf]at hc;obtain⟨y',hy,z',hz,rfl⟩:=hc
     cases hf:abJ hs o with
     |false=>
      rw[hf]at he;exact(aca h hn hop hu hi hzv b2 b3 hy hz he).wp hnd hd hK
     |true=>
      rw[hf]at he;obtain⟨id,ak,es,g1,rfl,rfl,g2⟩:=abq he;exact((aca h hn hop hu hi hzv b2 b3 hy hz g1).CT g2).wp hnd hd hK
    ·cases hc
   ·cases hc
  ·rename_i y t hargs hats;have ha:args=#[y]:=by rw[<-Array.toArray_toList (xs:=args),hargs]
   have hb:ats=#[t]:=by rw[<-Array.toArray_toList (xs:=ats),hats]
   subst ha hb;cases hc
  ·rename_i y z t t' hargs hats;have ha:args=#[y,z]:=by rw[<-Array.toArray_toList (xs:=args),hargs]
   have hb:ats=#[t,t']:=by rw[<-Array.toArray_toList (xs:=ats),hats]
   subst ha hb;split at hc
   ·rename_i e hu;simp only[Qd,Qc]at hc;obtain⟨i,hi,hc⟩:=hc;split at hc
    ·rename_i hb;obtain⟨rfl,_⟩:=hb;simp only[Qc,Qf]at hc;obtain⟨y',hy,z',hz,rfl⟩:=hc;exact(agQ h hop hu hi hy hz he).wp hnd hd hK
    ·cases hc
   ·cases hc
  ·rename_i y z hargs;have ha:args=#[y,z]:=by rw[<-Array.toArray_toList (xs:=args),hargs]
   subst ha;simp only[Qd,Qc,Qf]at hc;obtain⟨y',hy,z',hz,rfl⟩:=hc;exact(Tf (mx:=false) h (by simpa using hop) hy hz he).wp hnd hd hK
  ·rename_i y z hargs;have ha:args=#[y,z]:=by rw[<-Array.toArray_toList (xs:=args),hargs]
   subst ha;simp only[Qd,Qc,Qf]at hc;obtain⟨y',hy,z',hz,rfl⟩:=hc;exact(Tf (mx:=true) h (by simpa using hop) hy hz he).wp hnd hd hK
  ·cases hc
 case h_24 t y i hop=>
  split at hc
  ·rename_i fs hu;split at hc
   ·rename_i f hf;simp only[Qd,Qc,Qf]at hc;obtain⟨n,hn,y',hy,rfl⟩:=hc;exact(agP h hop hu hf hn hy he).wp hnd hd hK
   ·cases hc
  ·cases hc
 case h_25 t y hop=>
  split at hc
  ·rename_i ht;simp only[Qd,Qc,Qf]at hc;obtain⟨y',hy,rfl⟩:=hc;exact(agL h hop ht hy he).wp hnd hd hK
  ·cases hc
 case h_26 y t0 t hop=>
  split at hc
  ·cases hc
  ·rename_i u i hni hu hi;simp only[Qd,Qc,Qf]at hc;obtain⟨zv,hz,zp,hzp,y',hy,rfl⟩:=hc;exact(agF h hop hu (fun ms e=>by subst e;exact hni _ rfl) hi hz hzp hy he).wp hnd hd hK
  ·cases hc
 case h_27 t y hop=>
  simp only[Qd,Qc,Qf]at hc;obtain⟨y',hy,rfl⟩:=hc;exact(agI h hop hy he).wp hnd hd hK
 case h_28 t hop=>
  injection hc with hc
  subst hc;exact(agK h hop he).wp hnd hd hK
 case h_29 hop=>
  injection hc with hc
  subst hc;cases he
 case h_30=>cases hc
end
end
section
open Go.RowKit
def uh(P:Program)(hs:List Nat)(ops:Array Oper)(o:Oper):Option SG:=
 match Ea P hs o with
 |none=>none
 |some s=>
  match o.guard with
  |none=>some ⟨o.dst,none,s⟩
  |some (j,want)=>
   match ops[j]? with
   |none=>none
   |some oj=>
    match oj.dst with
    |none=>none
    |some t=>some ⟨o.dst,some (t,want),s⟩
section
variable {P : Program} {E : En} {S : St} {a : Act} {w : World} {L : Nat -> Value} {Γ : mR} {hs : List Nat}
theorem Ht{ops:Array Oper}{o:Oper}{g:SG}(h:uh P hs ops o=some g):Ea P hs o=some g.op/\g.d=o.dst/\
  ((o.guard=none/\g.g=none)\/∃j want oj t,o.guard=some (j,want)/\ops[j]?=some oj/\oj.dst=some t/\g.g=some (t,want)):=by
 unfold uh at h;split at h
 ·cases h
 ·rename_i s hs;split at h
  ·rename_i hg;injection h with h
   subst h;exact⟨hs,rfl,.inl ⟨hg,rfl⟩⟩
  ·rename_i j want hg;split at h
   ·cases h
   ·rename_i oj hoj;split at h
    ·cases h
    ·rename_i t ht;injection h with h
     subst h;exact⟨hs,rfl,.inr ⟨j,want,oj,t,hg,hoj,ht,rfl⟩⟩
theorem Ob{ops:Array Oper}{o:Oper}{g:SG}(h:Rel E S a w L)(hc:uh P hs ops o=some g){b:Bool}(hw:g.wanted S=some b):Region.wanted o (yielded ops a.tmps)=b:=by
 obtain⟨_,_,hg⟩:=Ht hc;unfold SG.wanted at hw;rcases hg with⟨h1,h2⟩|⟨j,want,oj,t,h1,h2,h3,h4⟩
 ·rw[h2]at hw;injection hw with hw
  subst hw;simp[Region.wanted,h1]
 ·rw[h4]at hw;simp only at hw;have he:=h.env t;split at hw
  ·rename_i b' eb;rw[eb]at he;have hv:=he.ku;injection hw with hw
   subst hw
   have:a.tmps[t]?=some (.bool b'):=by
    rw[QN]at hv
    cases hq:a.tmps[t]? with
    |none=>rw[hq]at hv;simp[undef]at hv
    |some v=>rw[hq]at hv;simp at hv;rw[hv]
   simp[Region.wanted,h1,yielded,h2,h3,this]
  ·rename_i eb;rw[eb]at he;have hv:=he.Yb;injection hw with hw
   subst hw
   have:yielded ops a.tmps j=none:=by
    simp only[yielded,h2,h3,Qa];rw[QN]at hv
    cases hq:a.tmps[t]? with
    |none=>rfl
    |some v=>rw[hq]at hv;simp at hv;rw[hv];rfl
   simp[Region.wanted,h1,this]
  ·cases hw
theorem w7(hΓ:lR P Γ){ops:Array Oper}{o:Oper}{g:SG}(hc:uh P hs ops o=some g)(h:Rel E S a w L){nid:Nat}(hn:nid<S.N)(hd:∀t,o.dst=some t->E.can t){S':St}(hs:z8 Γ nid S g=some S'){K:Act->World->Prop}{Q:Exit->Act->World->Prop}
  (hK:∀a' w' L',Rel E S' a' w' L'->K a' w'):if Region.wanted o (yielded ops a.tmps)=true then o.wpIn (WF E.rd) 0 P a w K Q else(∀f,o.about P w a.eval=some f->(WF E.rd).fn f)/\K (a.put o.dst undef) w:=by
 obtain⟨hcop,hgd,_⟩:=Ht hc;unfold z8 at hs;split at hs
 ·rename_i hw;rw[Ob h hc hw,Qr rfl];simp only[Qb]at hs;obtain⟨⟨x,wr⟩,he,rfl⟩:=hs;rw[hgd]at hK;exact Xh hΓ hcop h hn he hd hK
 ·rename_i hw;rw[Ob h hc hw,Qs (by simp)]
  injection hs with hs
  subst hs;rw[hgd]at hK;exact⟨fun _ _=>trivial,hK _ _ _ (h.Wz hd .undef)⟩
 ·cases hs
theorem abO{nid:Nat}{g:SG}{S':St}(hs:z8 Γ nid S g=some S'):S'.N=S.N:=by
 unfold z8 at hs;split at hs
 ·simp only[Qb]at hs;obtain⟨p,_,rfl⟩:=hs;rfl
 ·injection hs with hs;subst hs;rfl
 ·cases hs
theorem Ex(hΓ:lR P Γ){ops:Array Oper}:∀(l:List Oper) (gs:List SG) (nid:Nat) (S S':St) (a:Act) (w:World) (L:Nat->Value),l.mapM (uh P hs ops)=some gs->Rel E S a w L->nid+l.length<=S.N->
  (∀o∈l,∀t,o.dst=some t->E.can t)->AB Γ nid gs S=some S'->∀{Q:Exit->Act->World->Prop},(∀a' w' L',Rel E S' a' w' L'->Q .normal a' w')->wpListIn (WF E.rd) 0 P ops Q l a w
 |[],gs,nid,S,S',a,w,L,hm,h,hN,hd,hr,Q,hQ=>by
  simp at hm;subst hm;simp only[AB,Qf]at hr;subst hr;exact hQ a w L h
 |o::l,gs,nid,S,S',a,w,L,hm,h,hN,hd,hr,Q,hQ=>by
  simp only[Qq74,Qd,Qc,Option.pure_def,Qf]at hm;obtain⟨g,hg,gs',hgs,rfl⟩:=hm;simp only[AB]at hr;split at hr
  ·rename_i S1 hs;refine wpListIn_step fun K hK=> ?_
   refine w7 hΓ hg h (by simp at hN;omega) (hd o (by simp)) hs (fun a' w' L' h'=>hK _ _ ?_)
   exact Ex hΓ l gs' (nid+1) S1 S' a' w' L' hgs h' (by rw[abO hs];simp at hN;omega) (fun o' ho'=>hd o' (by simp[ho'])) hr hQ
  ·cases hr
inductive SC where
 |skip
 |xu (ops:List SG)
 |qP (un:List (Nat×Nat)) (ops:List SG)
 |seq (x y:SC)
 |cond (c:bn) (x y:SC)
 |block (id:Nat) (c:SC)
 |loop (c:SC)
 |Gs (g:bn) (ps:List Nat) (x y:SC)
 |exit (id:Nat)
 |ret
def mm:Code->List Nat
 | .region _ ops _=>ops.toList.filterMap (·.dst)
 | .seq x y| .cond _ x y=>mm x++mm y
 | .block _ c| .loop c=>mm c
 | .rangeFunc _ ps x y=>ps.toList++mm x++mm y
 |_=>[]
def AG:Code->Bool
 | .seq x y| .cond _ x y=>AG x&&AG y
 | .block _ c| .loop c=>AG c
 | .rangeFunc ..=>false
 |_=>true
def C5(E:En)(c:Code):Prop:=(∀t∈mm c,E.kt t=none)/\((E.rd=none/\E.nd=false)\/AG c=true)
theorem C5.ahS{E:En}{x y:Code}(h:C5 E (.seq x y)):C5 E x:=⟨fun t ht=>h.1 t (List.mem_append_left _ ht),h.2.imp id fun e=>by simp only[AG,Qm]at e;exact e.1⟩
theorem C5.ahR{E:En}{x y:Code}(h:C5 E (.seq x y)):C5 E y:=⟨fun t ht=>h.1 t (List.mem_append_right _ ht),h.2.imp id fun e=>by simp only[AG,Qm]at e;exact e.2⟩
theorem C5.aci{E:En}{c:Operand}{x y:Code}(h:C5 E (.cond c x y)):C5 E x:=⟨fun t ht=>h.1 t (List.mem_append_left _ ht),h.2.imp id fun e=>by simp only[AG,Qm]at e;exact e.1⟩
theorem C5.ach{E:En}{c:Operand}{x y:Code}(h:C5 E (.cond c x y)):C5 E y:=⟨fun t ht=>h.1 t (List.mem_append_right _ ht),h.2.imp id fun e=>by simp only[AG,Qm]at e;exact e.2⟩
theorem ZI{E:En}{id:Nat}{ops:Array Oper}{d:Bool}{nt:Nat}(hE:E.nt=nt)(hk:C5 E (.region id ops d))(hd:∀o∈ops.toList,∀t,o.dst=some t->t<nt):∀o∈ops.toList,∀t,o.dst=some t->E.can t:=
 fun o ho t ht=>⟨by rw[hE];exact hd o ho t ht,hk.1 t (List.mem_filterMap.2 ⟨o,ho,ht⟩)⟩
def V(P:Program)(nt:Nat)(c:Code)(Q:Exit->St->Prop)(S:St):Prop:=
 ∀(E:En),E.nt=nt->C5 E c->∀(a:Act) (w:World) (L:Nat->Value),Rel E S a w L->c.wpIn (WF E.rd) 0 P (fun e a' w'=>∃S' L',Rel E S' a' w' L'/\Q e S') a w
theorem V.mono{nt:Nat}{c:Code}{Q Q':Exit->St->Prop}(h:V P nt c Q S)(hq:∀e S,Q e S->Q' e S):V P nt c Q' S:=
 fun E hE hk a w L hr=>wpIn_mono (h E hE hk a w L hr) fun _ _ _ ⟨S',L',h1,h2⟩=>⟨S',L',h1,hq _ _ h2⟩
def Nd(K:St->Prop)(Q:Exit->St->Prop):Exit->St->Prop
 | .normal,S=>K S
 | .exit i,S=>Q (.exit i) S
 | .goto l,S=>Q (.goto l) S
 | .ret,S=>Q .ret S
 | .panic c,S=>Q (.panic c) S
 | .outgrown,S=>Q .outgrown S
def Ef(id:Nat)(Q:Exit->St->Prop):Exit->St->Prop
 | .exit i,S=>if i=id then Q .normal S else Q (.exit i) S
 | .normal,S=>Q .normal S
 | .goto l,S=>Q (.goto l) S
 | .ret,S=>Q .ret S
 | .panic c,S=>Q (.panic c) S
 | .outgrown,S=>Q .outgrown S
theorem afQ{nt:Nat}{Q:Exit->St->Prop}(h:Q .normal S):V P nt .skip Q S:=fun _ _ _ _ _ L hr=>wpIn_skip ⟨S,L,hr,h⟩
theorem afR{nt id:Nat}{Q:Exit->St->Prop}(h:Q (.exit id) S):V P nt (.exit id) Q S:=fun _ _ _ _ _ L hr=>wpIn_exit ⟨S,L,hr,h⟩
theorem ag5{nt:Nat}{Q:Exit->St->Prop}(h:Q .ret S):V P nt .ret Q S:=fun _ _ _ _ _ L hr=>wpIn_ret ⟨S,L,hr,h⟩
theorem ag4{nt:Nat}{x y:Code}{Q:Exit->St->Prop}(h:V P nt x (Nd (V P nt y Q) Q) S):V P nt (.seq x y) Q S:=fun E hE hk a w L hr=>
 wpIn_seq (wpIn_mono (h E hE hk.ahS a w L hr) fun e a' w' ⟨S',L',h1,h2⟩=>by
  cases e with
  |normal=>exact h2 E hE hk.ahR a' w' L' h1
  |exit i=>exact⟨S',L',h1,h2⟩
  |goto l=>exact⟨S',L',h1,h2⟩
  |ret=>exact⟨S',L',h1,h2⟩
  |panic c=>exact⟨S',L',h1,h2⟩
  |outgrown=>exact⟨S',L',h1,h2⟩)
theorem afS{nt:Nat}{c:Operand}{c':bn}{x y:Code}{b:Bool}{Q:Exit->St->Prop}(hc:bd c=some c')(hb:c'.val S= .bool b)(h:V P nt (if b then x else y) Q S):V P nt (.cond c x y) Q S:=fun E hE hk a w L hr=>by
 have:=hr.fj hc;rw[hb]at this
 exact wpIn_cond this.ku (h E hE (by
  cases b
  ·exact hk.ach
  ·exact hk.aci) a w L hr)
theorem aen{nt id:Nat}{c:Code}{Q:Exit->St->Prop}(h:V P nt c (Ef id Q) S):V P nt (.block id c) Q S:=fun E hE hk a w L hr=>
 wpIn_block (wpIn_mono (h E hE hk a w L hr) fun e a' w' ⟨S',L',h1,h2⟩=>by
  cases e with
  |exit i=>
   simp only[Ef]at h2;simp only[Exit.inBlock];split
   ·rename_i hi;rw[Qr hi]at h2;exact⟨S',L',h1,h2⟩
   ·rename_i hi;rw[Qs hi]at h2;exact⟨S',L',h1,h2⟩
  |normal=>exact⟨S',L',h1,h2⟩
  |goto l=>exact⟨S',L',h1,h2⟩
  |ret=>exact⟨S',L',h1,h2⟩
  |panic c=>exact⟨S',L',h1,h2⟩
  |outgrown=>exact⟨S',L',h1,h2⟩)
theorem pK{α β:Type}{f:α->Option β}:∀{l:List α} {r:List β},l.mapM f=some r->r.length=l.length
 |[],r,h=>by simp at h;subst h;rfl
 |x::l,r,h=>by
  simp only[Qq74,Qd,Qc,Option.pure_def,Qf]at h;obtain⟨y,_,ys,hys,rfl⟩:=h;simp[pK hys]
def PV.kg(n:Nat):PV->Bool
 | .own id _| .ptr id _ _| .eN id _ _ _ _| .view id _ _ _ _=>decide (id<n)
 | .agg _| .dg _| .bY _ _| .jx _ _=>false
 |_=>true
def PV.under(n:Nat):PV->Bool
 | .agg cs| .dg cs| .bY _ cs| .jx _ cs=>cs.all (PV.kg n)
 |x=>x.kg n
def yE.under(n:Nat):yE->Bool
 | .dead=>true
 | .box cs=>cs.all (PV.under n)
 | .row _ _ es=>es.all fun e=>e.all (PV.under n)
theorem bm.kg{M M':Nat->Prop}{G G':Gh}{x:PV}{v:Value}(hx:x.kg G'.N=true)(hM:∀b,M' b->M b)(hL:G'.L=G.L)(hV:∀id,id<G'.N->G'.V id=G.V id)(h:bm w M G x v):bm w M' G' x v:=by
 have hs:dZ w w M M':=(dZ.of fun _ hm=>fun h'=>hm (hM _ h'))
 cases h with
 |any=>exact .any _
 |undef=>exact .undef
 |int=>exact .int _ _
 |bool=>exact .bool _
 |fW=>first|exact .fW _|simp[PV.closed]at hc
 |str=>exact .str _
 |jW=>exact .jW
 |dW=>exact .dW
 |bY=>simp[PV.kg]at hx
 |jx=>simp[PV.kg]at hx
 |agg=>simp[PV.kg]at hx
 |dg=>simp[PV.kg]at hx
 |ptr id ak off a hN hVe h=>simp only[PV.kg,Qi]at hx;exact .ptr _ _ _ _ hx (by rw[hV id hx];exact hVe) (fun e=>by rw[hL];exact h (by rw[e,hV id hx]))
 |ref cs ad vs hl hcell h=>exact .ref cs ad vs hl (fun i u hu=>⟨(hcell i u hu).1,fun h'=>(hcell i u hu).2 (hM _ h')⟩) (fun i p u hp hu=>(h i p u hp hu).mono hs (Gh.le.refl _))
 |sl es ad c k vs hk hl hcell h hn hm=>exact .sl es ad c k vs hk hl (fun i u hu=>⟨(hcell i u hu).1,fun h'=>(hcell i u hu).2 (hM _ h')⟩) (fun i p u hp hu=>(h i p u hp hu).mono hs (Gh.le.refl _)) hn hm
 |slnil=>exact .slnil
 |own id ak a n c hN hVe h=>simp only[PV.kg,Qi]at hx;exact .own _ _ _ _ _ hx (by rw[hV id hx];exact hVe) (fun e=>by rw[hL];exact h (by rw[e,hV id hx]))
 |eN id ak k i off a hN hVe h=>simp only[PV.kg,Qi]at hx;exact .eN _ _ _ _ _ _ hx (by rw[hV id hx];exact hVe) (fun e=>by rw[hL];exact h (by rw[e,hV id hx]))
 |view id ak k lo n a c hN hVe h=>simp only[PV.kg,Qi]at hx;exact .view _ _ _ _ _ _ _ hx (by rw[hV id hx];exact hVe) (fun e=>by rw[hL];exact h (by rw[e,hV id hx]))
 |wM=>exact .wM
 |xF T v=>exact .xF T v
 |jw T x v hp h=>exact .jw T x v hp (h.plain hp)
 |jg ks us b es ck hb hMb hk hv h1 h2=>exact .jg ks us b es ck hb (fun h'=>hMb (hM _ h')) hk hv (fun i p e hp he=>(h1 i p e hp he).mono hs (Gh.le.refl _)) (fun i p e hp he=>(h2 i p e hp he).mono hs (Gh.le.refl _))
theorem bm.under{M M':Nat->Prop}{G G':Gh}{x:PV}{v:Value}(hx:x.under G'.N=true)(hM:∀b,M' b->M b)(hL:G'.L=G.L)(hV:∀id,id<G'.N->G'.V id=G.V id)(h:bm w M G x v):bm w M' G' x v:=by
 have go:∀{cs:List PV} {vs:List Value},cs.all (PV.kg G'.N)=true->bg w M G cs vs->bg w M' G' cs vs:=fun hc h=>⟨h.1,fun i y v hy hv=>(h.2 i y v hy hv).kg (QH.1 hc y (Q7 hy)) hM hL hV⟩
 cases x with
 |agg cs=>obtain⟨vs,rfl,hr⟩:=h.qQ;have:=go (by simpa[PV.under]using hx) hr;exact .agg _ _ this.1 this.2
 |dg cs=>obtain⟨vs,rfl,hr⟩:=h.DE;have:=go (by simpa[PV.under]using hx) hr;exact .dg _ _ this.1 this.2
 |bY f cs=>obtain⟨vs,rfl,hr⟩:=h.zg;have:=go (by simpa[PV.under]using hx) hr;exact .bY _ _ _ this.1 this.2
 |jx f cs=>obtain⟨vs,rfl,hr⟩:=h.N5;have:=go (by simpa[PV.under]using hx) hr;exact .jx _ _ _ this.1 this.2
 |_=>exact h.kg (by simpa[PV.under]using hx) hM hL hV
def St.cut(S:St)(ts:List Nat)(n:Nat):St:=
 {env:=fun t=>if t∈ts then S.env t else .any,H:=fun id=>if id<n then S.H id else⟨0,.dead⟩,N:=n}
structure XX (S:St) (ts:List Nat) (n:Nat):Prop where
 N:n<=S.N
 env:∀t∈ts,(S.env t).under n=true
 H:∀id,id<n->(S.H id).c.under n=true
theorem Rel.cut(h:Rel E S a w L){ts:List Nat}{n:Nat}(hc:XX S ts n):Rel E (S.cut ts n) a w L:=by
 have hM:∀b,br E (S.cut ts n) L b->br E S L b:=by
  rintro b (⟨id,hid,hl,hb⟩|hb)
  ·simp only[St.cut]at hid hl;rw[Qr hid]at hl;exact .inl ⟨id,QJ hid hc.N,hl,hb⟩
  ·exact .inr hb
 have hV:∀id,id<((S.cut ts n).gh L).N->((S.cut ts n).gh L).V id=(S.gh L).V id:=fun id hid=>by
  simp only[St.gh,St.cut]at hid ⊢;rw[Qr hid]
 have go:∀{cs:List PV} {vs:List Value},(∀y∈cs,y.under n=true)->bg w (br E S L) (S.gh L) cs vs->bg w (br E (S.cut ts n) L) ((S.cut ts n).gh L) cs vs:=fun hc h=>
  ⟨h.1,fun i y v hy hv=>bm.under (G:=S.gh L) (G':=(S.cut ts n).gh L) (hc y (Q7 hy)) hM rfl hV (h.2 i y v hy hv)⟩
 refine⟨h.defers,h.size,fun t=> ?_,fun id hid=> ?_,fun i j b hi hj hli hlj hbi hbj=> ?_,fun id hid=> ?_,h.fr,fun hb hlv hvr=> ?_⟩
 ·by_cases ht:t∈ts
  ·have e:(S.cut ts n).env t=S.env t:=by simp[St.cut,ht]
   rw[e];exact bm.under (G:=S.gh L) (G':=(S.cut ts n).gh L) (hc.env t ht) hM rfl hV (h.env t)
  ·have e:(S.cut ts n).env t= .any:=by simp[St.cut,ht]
   rw[e];exact .any _
 ·simp only[St.cut]at hid;have hc':((S.cut ts n).H id).c=(S.H id).c:=by simp[St.cut,hid]
  rw[hc'];have ho:=h.obj id (QJ hid hc.N);have hb:=hc.H id hid
  cases hcc:(S.H id).c with
  |dead=>trivial
  |box cs=>
   rw[hcc]at ho hb;obtain⟨b,cur,T,h1,h2,h3,h4⟩:=ho;exact⟨b,cur,T,h1,h2,h3,go (fun y hy=>QH.1 hb y hy) h4⟩
  |row e k es=>
   rw[hcc]at ho hb;obtain⟨vs,h1,h2,h3⟩:=ho;refine⟨vs,h1,h2,go (fun y hy=> ?_) h3⟩
   obtain⟨l,hl,hyl⟩:=List.mem_flatten.1 hy;exact QH.1 (QH.1 hb l hl) y hyl
 ·simp only[St.cut]at hi hj hli hlj;rw[Qr hi]at hli;rw[Qr hj]at hlj;exact h.apart i j b (QJ hi hc.N) (QJ hj hc.N) hli hlj hbi hbj
 ·simp only[St.cut]at hid ⊢;rw[Qs (by omega)]
 ·simp only[St.cut]at hlv hvr
  by_cases hn0:0<n
  ·rw[Qr hn0]at hlv hvr;exact h.BE hb hlv hvr
  ·rw[Qs hn0]at hlv;cases hlv
def agC(ts:List Nat)(n:Nat)(I:Nat->St->Prop)(m:Nat)(Q:Exit->St->Prop):Exit->St->Prop
 | .normal,S=>XX S ts n/\∃m',m'<m/\I m' (S.cut ts n)
 | .exit i,S=>Q (.exit i) S
 | .goto l,S=>Q (.goto l) S
 | .ret,S=>Q .ret S
 | .panic c,S=>Q (.panic c) S
 | .outgrown,S=>Q .outgrown S
end
end
end Go.TQ
end
