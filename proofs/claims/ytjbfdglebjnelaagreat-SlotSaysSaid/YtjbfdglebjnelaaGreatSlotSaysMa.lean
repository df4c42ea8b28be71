/-
  Texts made small by a program (see NOTES). Conditions: those that each theorem names.
-/
import Derived.Maps.AppendAt
import Derived.Below
import Derived.Orders
import Derived.Tactics
import Derived.Deep.MidRow
import Derived.RangeFuncLeaves
import Derived.WalkKit
import Derived.Lib.Bytes
import Derived.Laws.Tables
import Derived.Laws.MakeOwn
import Derived.Laws.Cover3
import Derived.Laws.StructEq
import Derived.Sort.LoopGhostIn
import Derived.OrdersIn
set_option linter.unusedVariables false
set_option linter.unusedSimpArgs false
set_option linter.unusedSectionVars false
set_option maxHeartbeats 2000000
namespace Go
theorem Qa : type_of% @Option.bind_some := @Option.bind_some
theorem Qb : type_of% @Option.map_eq_some_iff := @Option.map_eq_some_iff
theorem Qc : type_of% @Option.bind_eq_some_iff := @Option.bind_eq_some_iff
theorem Qd : type_of% @Option.bind_eq_bind := @Option.bind_eq_bind
theorem Qe : type_of% @Option.map_some := @Option.map_some
theorem Qf : type_of% @Option.some.injEq := @Option.some.injEq
theorem Qg : type_of% @decide_eq_true := @decide_eq_true
theorem Qh : type_of% @decide_eq_false := @decide_eq_false
theorem Qi : type_of% @decide_eq_true_eq := @decide_eq_true_eq
theorem Qj : type_of% @decide_eq_false_iff_not := @decide_eq_false_iff_not
theorem Qk : type_of% @cond_true := @cond_true
theorem Ql : type_of% @cond_false := @cond_false
theorem Qm : type_of% @Bool.and_eq_true := @Bool.and_eq_true
theorem Qn : type_of% @Bool.or_eq_true := @Bool.or_eq_true
theorem Qo : type_of% @Bool.not_true := @Bool.not_true
theorem Qp : type_of% @Bool.not_false := @Bool.not_false
theorem Qq : type_of% @Bool.false_eq_true := @Bool.false_eq_true
theorem Qr : type_of% @if_pos := @if_pos
theorem Qs : type_of% @if_neg := @if_neg
theorem Qt : type_of% @if_true := @if_true
theorem Qu : type_of% @if_false := @if_false
theorem Qv : type_of% @List.getElem?_eq_getElem := @List.getElem?_eq_getElem
theorem Qw : type_of% @List.getElem?_eq_some_iff := @List.getElem?_eq_some_iff
theorem Qx : type_of% @List.mem_cons_self := @List.mem_cons_self
theorem Qy : type_of% @List.mem_cons_of_mem := @List.mem_cons_of_mem
theorem Qz : type_of% @List.mem_append := @List.mem_append
theorem QA : type_of% @List.mem_cons := @List.mem_cons
theorem QB : type_of% @List.length_append := @List.length_append
theorem QC : type_of% @List.length_map := @List.length_map
theorem QD : type_of% @List.map_cons := @List.map_cons
theorem QE : type_of% @List.length_cons := @List.length_cons
theorem QF : type_of% @Nat.eq_of_beq_eq_true := @Nat.eq_of_beq_eq_true
theorem QG : type_of% @Nat.le_of_ble_eq_true := @Nat.le_of_ble_eq_true
theorem QH : type_of% @List.all_eq_true := @List.all_eq_true
theorem QI : type_of% @Nat.le_refl := @Nat.le_refl
theorem QJ : type_of% @Nat.lt_of_lt_of_le := @Nat.lt_of_lt_of_le
theorem QK : type_of% @Nat.le_trans := @Nat.le_trans
theorem QL : type_of% @List.append_assoc := @List.append_assoc
theorem QM : type_of% @List.drop_eq_getElem_cons := @List.drop_eq_getElem_cons
theorem QN : type_of% @Array.getD_eq_getD_getElem? := @Array.getD_eq_getD_getElem?
theorem QO : type_of% @List.map_nil := @List.map_nil
theorem QP : type_of% @List.mem_map := @List.mem_map
theorem QQ : type_of% @List.mem_flatMap := @List.mem_flatMap
theorem QR : type_of% @List.not_mem_nil := @List.not_mem_nil
theorem QS : type_of% @Nat.zero_le := @Nat.zero_le
theorem QT : type_of% @List.getElem?_map := @List.getElem?_map
theorem QU : type_of% @List.foldl_cons := @List.foldl_cons
theorem QV : type_of% @Int.toNat_natCast := @Int.toNat_natCast
theorem QW : type_of% @Bool.eq_iff_iff := @Bool.eq_iff_iff
theorem QX : type_of% @Bool.not_eq_true := @Bool.not_eq_true
theorem QY : type_of% @List.length_set := @List.length_set
theorem QZ : type_of% @List.length_nil := @List.length_nil
theorem Q0 : type_of% @List.getElem_mem := @List.getElem_mem
theorem Q1 : type_of% @List.mem_of_mem_take := @List.mem_of_mem_take
theorem Q2 : type_of% @List.mem_of_mem_drop := @List.mem_of_mem_drop
theorem Q3 : type_of% @Option.getD_some := @Option.getD_some
theorem Q4 : type_of% @List.pairwise_cons := @List.pairwise_cons
theorem Q5 : type_of% @List.mem_singleton := @List.mem_singleton
theorem Q6 : type_of% @List.length_singleton := @List.length_singleton
theorem Q7 : type_of% @List.take_succ_eq_append_getElem := @List.take_succ_eq_append_getElem
theorem Q8 : type_of% @List.mem_of_getElem? := @List.mem_of_getElem?
theorem Q9 : type_of% @Array.getElem?_eq_some_iff := @Array.getElem?_eq_some_iff
theorem Qq62 : type_of% @List.take_length := @List.take_length
theorem Qq63 : type_of% @Nat.mul_le_mul_right := @Nat.mul_le_mul_right
theorem Qq64 : type_of% @Int.lt_irrefl := @Int.lt_irrefl
theorem Qq65 : type_of% @Option.map_none := @Option.map_none
theorem Qq66 : type_of% @List.drop_length := @List.drop_length
theorem Qq67 : type_of% @List.eq_nil_of_length_eq_zero := @List.eq_nil_of_length_eq_zero
theorem Qq68 : type_of% @List.getElem?_take := @List.getElem?_take
theorem Qq69 : type_of% @List.pairwise_append := @List.pairwise_append
theorem Qq70 : type_of% @List.all_cons := @List.all_cons
theorem Qq71 : type_of% @List.map_congr_left := @List.map_congr_left
theorem Qq72 : type_of% @List.getElem?_eq_none := @List.getElem?_eq_none
theorem Qq73 : type_of% @Nat.add_mul := @Nat.add_mul
theorem Qq74 : type_of% @Bool.or_eq_false_iff := @Bool.or_eq_false_iff
theorem Qq75 : type_of% @List.mapM_cons := @List.mapM_cons
end Go
noncomputable section
namespace Go.TQ
section
inductive PV where
 |any
 |undef
 |int (k:IntKind) (n:Int)
 |bool (b:Bool)
 |gS
 |str (s:ByteArray)
 |lz
 |et
 |bG (f:FuncId) (caps:List PV)
 |jN (f:FuncId) (first:List PV)
 |agg (cs:List PV)
 |eo (cs:List PV)
 |ptr (id av off:Nat)
 |ref (cs:List PV)
 |sl (es:List (List PV))
 |own (id av:Nat)
 |fg (id av k i off:Nat)
 |view (id av k lo n:Nat)
 |jc (ks vs:List PV)
structure Gh where
 N:Nat
 L:Nat->Value
 V:Nat->Nat
def dw:Gh:=⟨0,fun _=> .bool false,fun _=>0⟩
def cp:Value->Option Nat
 | .pointer (some a)=>some a.block
 | .slice (some a) _ _=>some a.block
 |_=>none
def VI(l:Value)(k lo n:Nat)(a:Option Addr)(c:Nat):Prop:=
 ∃a0 m c0,l= .slice a0 m c0/\lo+n<=m/\m<=c0/\c=c0 - lo/\((n=0/\lo≠0/\(a=none->a0=none))\/a=a0.map (·.add (lo*k)))
inductive bm (w:World) (M:Nat->Prop):Gh->PV->Value->Prop where
 |any {G:Gh} (v:Value):bm w M G .any v
 |undef {G:Gh}:bm w M G .undef Go.undef
 |int {G:Gh} (k:IntKind) (n:Int):bm w M G (.int k n) (.int k n)
 |bool {G:Gh} (b:Bool):bm w M G (.bool b) (.bool b)
 |gS {G:Gh} (b:Bool):bm w M G .gS (.bool b)
 |str {G:Gh} (s:ByteArray):bm w M G (.str s) (.string s)
 |lz {G:Gh}:bm w M G .lz (.pointer none)
 |et {G:Gh}:bm w M G .et (.slice none 0 0)
 |bG {G:Gh} (f:FuncId) (caps:List PV) (vs:List Value) (hl:vs.length=caps.length) (h:∀(i:Nat) (x:PV) (v:Value),caps[i]?=some x->vs[i]?=some v->bm w M G x v):bm w M G (.bG f caps) (.func (.func f) #[] vs.toArray)
 |jN {G:Gh} (f:FuncId) (cs:List PV) (vs:List Value) (hl:vs.length=cs.length) (h:∀(i:Nat) (x:PV) (v:Value),cs[i]?=some x->vs[i]?=some v->bm w M G x v):bm w M G (.jN f cs) (.func (.func f) vs.toArray #[])
 |agg {G:Gh} (cs:List PV) (vs:List Value) (hl:vs.length=cs.length) (h:∀(i:Nat) (x:PV) (v:Value),cs[i]?=some x->vs[i]?=some v->bm w M G x v):bm w M G (.agg cs) (.agg vs.toArray)
 |eo {G:Gh} (cs:List PV) (vs:List Value) (hl:vs.length=cs.length) (h:∀(i:Nat) (x:PV) (v:Value),cs[i]?=some x->vs[i]?=some v->bm w M G x v):bm w M G (.eo cs) (.tuple vs.toArray)
 |ptr {G:Gh} (id av off:Nat) (a:Option Addr) (hN:id<G.N) (hV:av<=G.V id) (h:av=G.V id->a=(cp (G.L id)).map fun b=>⟨b,off,none⟩):bm w M G (.ptr id av off) (.pointer a)
 |ref {G:Gh} (cs:List PV) (a:Addr) (vs:List Value) (hl:vs.length=cs.length) (hc:∀(i:Nat) (v:Value),vs[i]?=some v->w.cell? (a.add i)=some v/\¬M a.block)
   (h:∀(i:Nat) (x:PV) (v:Value),cs[i]?=some x->vs[i]?=some v->bm w M dw x v):bm w M G (.ref cs) (.pointer (some a))
 |sl {G:Gh} (es:List (List PV)) (a:Addr) (c k:Nat) (vs:List Value) (hk:∀e∈es,e.length=k) (hl:vs.length=es.flatten.length) (hc:∀(i:Nat) (v:Value),vs[i]?=some v->w.cell? (a.add i)=some v/\¬M a.block)
   (h:∀(i:Nat) (x:PV) (v:Value),es.flatten[i]?=some x->vs[i]?=some v->bm w M dw x v) (hn:es.length<=c) (hm:c<=maxLen):bm w M G (.sl es) (.slice (some a) es.length c)
 |slnil {G:Gh}:bm w M G (.sl []) (.slice none 0 0)
 |own {G:Gh} (id av:Nat) (a:Option Addr) (n c:Nat) (hN:id<G.N) (hV:av<=G.V id) (h:av=G.V id-> .slice a n c=G.L id):bm w M G (.own id av) (.slice a n c)
 |fg {G:Gh} (id av k i off:Nat) (a:Option Addr) (hN:id<G.N) (hV:av<=G.V id) (h:av=G.V id->a=(cp (G.L id)).map fun b=>⟨b,i*k+off,none⟩):bm w M G (.fg id av k i off) (.pointer a)
 |view {G:Gh} (id av k lo n:Nat) (a:Option Addr) (c:Nat) (hN:id<G.N) (hV:av<=G.V id) (h:av=G.V id->VI (G.L id) k lo n a c):bm w M G (.view id av k lo n) (.slice a n c)
 |jc {G:Gh} (ks vs:List PV) (b:Nat) (es:Array MapEntry) (ck:Nat) (hb:w.heap[b]?=some (.map es ck)) (hM:¬M b) (hk:es.size=ks.length) (hv:es.size=vs.length)
   (h1:∀(i:Nat) (x:PV) (e:MapEntry),ks[i]?=some x->es[i]?=some e->bm w M dw x e.key) (h2:∀(i:Nat) (x:PV) (e:MapEntry),vs[i]?=some x->es[i]?=some e->bm w M dw x e.val):bm w M G (.jc ks vs) (.map (some b))
def bj(w:World)(M:Nat->Prop)(G:Gh)(cs:List PV)(vs:List Value):Prop:=
 vs.length=cs.length/\∀(i:Nat) (x:PV) (v:Value),cs[i]?=some x->vs[i]?=some v->bm w M G x v
structure Gh.le (G G':Gh):Prop where
 N:G.N<=G'.N
 at_:∀id,id<G.N->(G.V id=G'.V id/\G.L id=G'.L id)\/G.V id<G'.V id
theorem Gh.le.refl(G:Gh):G.le G:=⟨QI _,fun _ _=> .inl ⟨rfl,rfl⟩⟩
structure dW (w w':World) (M M':Nat->Prop):Prop where
 c:∀(a:Addr) (v:Value),w.cell? a=some v->¬M a.block->w'.cell? a=some v/\¬M' a.block
 m:∀(b:Nat) (es:Array MapEntry) (ck:Nat),w.heap[b]?=some (.map es ck)->¬M b->w'.heap[b]?=some (.map es ck)/\¬M' b
theorem dW.of{w:World}{M M':Nat->Prop}(h:∀b,¬M b->¬M' b):dW w w M M':=⟨fun _ _ hp hm=>⟨hp,h _ hm⟩,fun _ _ _ hb hm=>⟨hb,h _ hm⟩⟩
theorem bm.ahy{w w':World}{M M':Nat->Prop}{G:Gh}(hs:dW w w' M M'){x:PV}{v:Value}(h:bm w M G x v):∀G',G.le G'->bm w' M' G' x v:=by
 induction h with
 |any v=>exact fun _ _=> .any v
 |undef=>exact fun _ _=> .undef
 |int k n=>exact fun _ _=> .int k n
 |bool b=>exact fun _ _=> .bool b
 |gS b=>exact fun _ _=> .gS b
 |str s=>exact fun _ _=> .str s
 |lz=>exact fun _ _=> .lz
 |et=>exact fun _ _=> .et
 |bG f caps vs hl _ ih=>exact fun G' hg=> .bG f caps vs hl fun i x v hx hv=>ih i x v hx hv G' hg
 |jN f cs vs hl _ ih=>exact fun G' hg=> .jN f cs vs hl fun i x v hx hv=>ih i x v hx hv G' hg
 |agg cs vs hl _ ih=>exact fun G' hg=> .agg cs vs hl fun i x v hx hv=>ih i x v hx hv G' hg
 |eo cs vs hl _ ih=>exact fun G' hg=> .eo cs vs hl fun i x v hx hv=>ih i x v hx hv G' hg
 |ptr id av off a hN hV h=>
  intro G' hg;refine .ptr id av off a (QJ hN hg.N) ?_ ?_
  ·rcases hg.at_ id hN with⟨e,_⟩|e<;>omega
  ·intro e;rcases hg.at_ id hN with⟨e1,e2⟩|e1
   ·rw[<-e2];exact h (by omega)
   ·omega
 |ref cs a vs hl hc _ ih=>
  intro G' _
  exact .ref cs a vs hl (fun i v hv=>by
   obtain⟨h1,h2⟩:=hc i v hv;have hb:(a.add i).block=a.block:=by unfold Addr.add;split<;>rfl
   have:=hs.c _ _ h1 (by rw[hb];exact h2)
   rw[hb]at this
   exact this) fun i x v hx hv=>ih i x v hx hv dw (Gh.le.refl _)
 |sl es a c k vs hk hl hc _ hn hm ih=>
  intro G' _
  exact .sl es a c k vs hk hl (fun i v hv=>by
   obtain⟨h1,h2⟩:=hc i v hv;have hb:(a.add i).block=a.block:=by unfold Addr.add;split<;>rfl
   have:=hs.c _ _ h1 (by rw[hb];exact h2)
   rw[hb]at this
   exact this) (fun i x v hx hv=>ih i x v hx hv dw (Gh.le.refl _)) hn hm
 |slnil=>exact fun _ _=> .slnil
 |own id av a n c hN hV h=>
  intro G' hg;refine .own id av a n c (QJ hN hg.N) ?_ ?_
  ·rcases hg.at_ id hN with⟨e,_⟩|e<;>omega
  ·intro e;rcases hg.at_ id hN with⟨e1,e2⟩|e1
   ·rw[<-e2];exact h (by omega)
   ·omega
 |fg id av k i off a hN hV h=>
  intro G' hg;refine .fg id av k i off a (QJ hN hg.N) ?_ ?_
  ·rcases hg.at_ id hN with⟨e,_⟩|e<;>omega
  ·intro e;rcases hg.at_ id hN with⟨e1,e2⟩|e1
   ·rw[<-e2];exact h (by omega)
   ·omega
 |view id av k lo n a c hN hV h=>
  intro G' hg;refine .view id av k lo n a c (QJ hN hg.N) ?_ ?_
  ·rcases hg.at_ id hN with⟨e,_⟩|e<;>omega
  ·intro e;rcases hg.at_ id hN with⟨e1,e2⟩|e1
   ·rw[<-e2];exact h (by omega)
   ·omega
 |jc ks vs b es ck hb hM hk hv _ _ ih1 ih2=>
  intro G' _;exact .jc ks vs b es ck (hs.m _ _ _ hb hM).1 (hs.m _ _ _ hb hM).2 hk hv (fun i x e hx he=>ih1 i x e hx he dw (Gh.le.refl _)) fun i x e hx he=>ih2 i x e hx he dw (Gh.le.refl _)
theorem bm.mono{w w':World}{M M':Nat->Prop}{G G':Gh}(hs:dW w w' M M')(hg:G.le G'){x:PV}{v:Value}(h:bm w M G x v):bm w' M' G' x v:=h.ahy hs G' hg
theorem dw.le(G:Gh):dw.le G:=⟨QS _,fun _ h=>absurd h (Nat.not_lt_zero _)⟩
theorem bj.mono{w w':World}{M M':Nat->Prop}{G G':Gh}(hs:dW w w' M M')(hg:G.le G'){cs:List PV}{vs:List Value}(h:bj w M G cs vs):bj w' M' G' cs vs:=
 ⟨h.1,fun i x v hx hv=>(h.2 i x v hx hv).mono hs hg⟩
section
variable {w : World} {M : Nat -> Prop} {G : Gh}
theorem bj.nil:bj w M G [] []:=⟨rfl,fun i x v h _=>by simp at h⟩
theorem bj.cons{x:PV}{v:Value}{cs:List PV}{vs:List Value}(h:bm w M G x v)(t:bj w M G cs vs):bj w M G (x::cs) (v::vs):=by
 refine⟨by simp[t.1],fun i y u hy hu=> ?_⟩
 cases i with
 |zero=>simp at hy hu;subst hy hu;exact h
 |succ i=>simp at hy hu;exact t.2 i y u hy hu
theorem bj.cons_inv{x:PV}{cs:List PV}{vs:List Value}(h:bj w M G (x::cs) vs):∃v vs',vs=v::vs'/\bm w M G x v/\bj w M G cs vs':=by
 obtain⟨hl,h⟩:=h
 cases vs with
 |nil=>simp at hl
 |cons v vs=>exact⟨v,vs,rfl,h 0 x v (by simp) (by simp),by simpa using hl,fun i y u hy hu=>h (i+1) y u (by simpa using hy) (by simpa using hu)⟩
theorem bj.oZ{vs:List Value}(h:bj w M G [] vs):vs=[]:=Qq67 h.1
theorem bj.append{cs ds:List PV}{vs us:List Value}(h:bj w M G cs vs)(k:bj w M G ds us):bj w M G (cs++ds) (vs++us):=by
 refine⟨by simp[h.1,k.1],fun i x v hx hv=> ?_⟩
 by_cases hi:i<cs.length
 ·rw[List.getElem?_append_left hi]at hx;rw[List.getElem?_append_left (by rw[h.1];exact hi)]at hv
  exact h.2 i x v hx hv
 ·rw[List.getElem?_append_right (by omega)]at hx
  rw[List.getElem?_append_right (by rw[h.1];omega),h.1]at hv
  exact k.2 _ x v hx hv
theorem bj.take{cs:List PV}{vs:List Value}(h:bj w M G cs vs)(n:Nat):bj w M G (cs.take n) (vs.take n):=by
 refine⟨by simp[h.1],fun i x v hx hv=> ?_⟩
 rw[Qq68]at hx hv;split at hx
 ·rename_i hi;rw[Qr hi]at hv;exact h.2 i x v hx hv
 ·cases hx
theorem bj.drop{cs:List PV}{vs:List Value}(h:bj w M G cs vs)(n:Nat):bj w M G (cs.drop n) (vs.drop n):=by
 refine⟨by simp[h.1],fun i x v hx hv=> ?_⟩
 rw[List.getElem?_drop]at hx hv;exact h.2 _ x v hx hv
theorem bj.get{cs:List PV}{vs:List Value}(h:bj w M G cs vs){i:Nat}{x:PV}(hx:cs[i]?=some x):∃v,vs[i]?=some v/\bm w M G x v:=by
 have hi:i<vs.length:=by rw[h.1];exact(Qw.1 hx).1
 exact⟨vs[i],Qv hi,h.2 i x _ hx (Qv hi)⟩
def PV.one:PV->Bool
 | .int ..| .bool _| .gS| .str _| .lz| .et| .bG ..| .jN ..| .ptr ..| .fg ..| .ref _| .sl _| .own ..| .view ..| .jc ..=>true
 |_=>false
def PV.cells:PV->List PV
 | .agg cs=>cs
 |x=>[x]
theorem bm.one{x:PV}{v:Value}(h:bm w M G x v)(h1:x.one=true):v.oneCell'=true/\v.cells=#[v]:=by
 cases h<;>simp[PV.one]at h1<;>exact⟨rfl,rfl⟩
theorem bm.cells{x:PV}{v:Value}(h:bm w M G x v)(h1:∀y∈x.cells,y.one=true):bj w M G x.cells v.cells.toList/\∀u∈v.cells.toList,u.oneCell'=true:=by
 have go:∀{cs:List PV} {vs:List Value},bj w M G cs vs->(∀y∈cs,y.one=true)->∀u∈vs,u.oneCell'=true:=by
  intro cs vs hr h1 u hu;obtain⟨i,hi,rfl⟩:=List.mem_iff_getElem.1 hu;have hx:i<cs.length:=by rw[<-hr.1];exact hi
  exact((hr.2 i cs[i] vs[i] (Qv hx) (Qv hi)).one (h1 _ (Q0 hx))).1
 cases hx:x with
 |agg cs=>
  subst hx
  cases h with
  |agg _ vs hl h=>
   have hr:bj w M G cs vs:=⟨hl,h⟩;exact⟨by simpa[PV.cells,Value.cells]using hr,by simpa[Value.cells]using go hr (by simpa[PV.cells]using h1)⟩
 |_=>
  have hc:x.cells=[x]:=by rw[hx];rfl
  rw[<-hx];rw[hc]at h1;obtain⟨h2,h3⟩:=h.one (h1 x (by simp))
  rw[hc,h3];exact⟨.cons h .nil,by simpa using h2⟩
end
end
section
open Go.RowKit
inductive yD where
 |dead
 |box (cs:List PV)
 |row (e:TypeId) (k:Nat) (es:List (List PV))
structure gp where
 av:Nat
 c:yD
def yD.live:yD->Bool
 | .dead=>false
 |_=>true
structure St where
 env:Nat->PV
 H:Nat->gp
 N:Nat
def bN{α:Type}(f:Nat->α)(i:Nat)(x:α):Nat->α:=fun j=>if j=i then x else f j
theorem cq{α:Type}(f:Nat->α)(i:Nat)(x:α):bN f i x i=x:=by simp[bN]
theorem cP{α:Type}(f:Nat->α){i j:Nat}(x:α)(h:j≠i):bN f i x j=f j:=by simp[bN,h]
def isC:Obj->Bool
 | .cells ..=>true
 |_=>false
def UL:Obj->Bool
 | .cells ..| .map ..=>true
 |_=>false
theorem aex{o:Obj}(h:isC o=true):UL o=true:=by cases o<;>first|rfl|cases h
structure DS (w w':World):Prop where
 size:w.heap.size<=w'.heap.size
 same:∀(k:Nat) (o:Obj),w.heap[k]?=some o->isC o=false->w'.heap[k]?=some o
theorem DS.refl(w:World):DS w w:=⟨QI _,fun _ _ h _=>h⟩
theorem DS.trans{a b c:World}(h:DS a b)(k:DS b c):DS a c:=⟨QK h.size k.size,fun i o hi ho=>k.same i o (h.same i o hi ho) ho⟩
def WF(rd:Option Nat):Fence:={Fence.wide with round:=rd}
theorem OJ{rd:Option Nat}{n:Nat}{P:Program}{f:FuncId}{args:Array Value}{w:World}{R:Ending->World->Prop}:CallsIn (WF rd) n P f args w R↔Calls P f args w R:=
 (show CallsIn (WF rd) n P f args w R↔CallsIn Fence.wide n P f args w R from Iff.rfl).trans callsIn_wide
structure En where
 w0:World
 rb:Option Nat
 nt:Nat
 rd:Option Nat
 nd:Bool
 kt:Nat->Option Value
 wk:World
 X:Nat->Prop
 hX:∀b,X b->b<w0.heap.size
 Ms:Bool
 rv:Value
 rk:Bool
 Oi:∀b,rb=some b->b<w0.heap.size
 UT:rk=true->∀b,rb=some b->¬X b
def gH(E:En)(v:Value):Nat:=if E.rk=true/\E.rb≠none/\cp v=E.rb then 0 else E.w0.heap.size
theorem B6{E:En}{v v':Value}(h:cp v=cp v'):gH E v=gH E v':=by simp[gH,h]
theorem Nc(E:En)(v:Value):gH E v<=E.w0.heap.size:=by unfold gH;split<;>omega
theorem KZ{E:En}{v:Value}{g:Nat}(h:cp v=some g)(hg:E.w0.heap.size<=g):gH E v=E.w0.heap.size:=by
 unfold gH;rw[Qs];rintro⟨_,_,h1⟩;rw[h]at h1;have:=E.Oi g h1.symm;omega
theorem Gt{E:En}{v:Value}{g:Nat}(h:cp v=some g)(hb:gH E v<=g):(E.rk=true/\E.rb=some g)\/E.w0.heap.size<=g:=by
 unfold gH at hb;split at hb
 ·rename_i hc;exact .inl ⟨hc.1,by rw[<-hc.2.2,h]⟩
 ·exact .inr hb
structure Fr (rb:Option Nat) (w0 w:World):Prop where
 os:w.os=w0.os
 tape:w.tape=w0.tape
 output:w.output=w0.output
 size:w0.heap.size<=w.heap.size
 block:∀b,b<w0.heap.size->rb≠some b->w.heap[b]?=w0.heap[b]?
 drawn:w0.drawn<=w.drawn
theorem Fr.refl(rb:Option Nat)(w:World):Fr rb w w:=⟨rfl,rfl,rfl,QI _,fun _ _ _=>rfl,QI _⟩
def bu(E:En)(S:St)(L:Nat->Value)(b:Nat):Prop:=(∃id,id<S.N/\(S.H id).c.live=true/\cp (L id)=some b)\/E.X b
def St.gh(S:St)(L:Nat->Value):Gh:=⟨S.N,L,fun id=>(S.H id).av⟩
def xR(E:En)(w:World)(M:Nat->Prop)(G:Gh)(v:Value):yD->Prop
 | .dead=>True
 | .box cs=>∃(b:Nat) (cur:Array Value) (T:TypeId),v= .pointer (some ⟨b,0,none⟩)/\w.heap[b]?=some (.cells cur T (0,0))/\(E.rb=some b\/E.w0.heap.size<=b)/\bj w M G cs cur.toList
 | .row e k es=>∃(vs:List Value),w.ownsRow (gH E v) e k v es.length vs/\(∀x∈es,x.length=k)/\bj w M G es.flatten vs
def En.can(E:En)(d:Nat):Prop:=d<E.nt/\E.kt d=none
structure Marks (E:En) (a:Act) (w:World):Prop where
 none:E.nd=true->a.defers=[]
 nodup:a.defers.Nodup
 at_:∀d∈a.defers,∃D,d={target:= .collected D,args:=#[]}/\E.w0.heap.size<=D/\w.heap[D]?=some (.deferred (some []))
theorem Marks.nil{E:En}{a:Act}{w:World}(h:a.defers=[]):Marks E a w:=⟨fun _=>h,by rw[h];exact List.nodup_nil,fun d hd=>by rw[h]at hd;cases hd⟩
structure FrE (E:En) (w:World):Prop extends Fr E.rb E.w0 w where
 ko:DS E.wk w
structure Rel (E:En) (S:St) (a:Act) (w:World) (L:Nat->Value):Prop where
 defers:Marks E a w
 size:a.tmps.size=E.nt/\∀t v,E.kt t=some v->a.tmps.getD t undef=v
 env:∀t,bm w (bu E S L) (S.gh L) (S.env t) (a.tmps.getD t undef)
 obj:∀id,id<S.N->xR E w (bu E S L) (S.gh L) (L id) (S.H id).c
 apart:∀i j b,i<S.N->j<S.N->(S.H i).c.live=true->(S.H j).c.live=true->cp (L i)=some b->cp (L j)=some b->i=j
 fresh:∀id,S.N<=id->S.H id=⟨0,.dead⟩
 fr:FrE E w
 De:E.Ms=true->(S.H 0).c.live=true->(S.H 0).av=0->L 0=E.rv
theorem Ju(a:Addr)(i:Nat):(a.add i).block=a.block:=by unfold Addr.add;split<;>rfl
theorem XC{w:World}{a:Addr}{v:Value}(h:w.cell? a=some v):a.block<w.heap.size:=World.block_lt_of_cell? w a h
theorem xR.mono{E:En}{w w':World}{M M':Nat->Prop}{G G':Gh}{v:Value}{c:yD}(hs:dW w w' M M')(hg:G.le G')
  (hb:∀b,cp v=some b->b<w.heap.size->w'.heap[b]?=w.heap[b]?) (h:xR E w M G v c):xR E w' M' G' v c:=by
 cases c with
 |dead=>trivial
 |box cs=>
  obtain⟨b,cur,T,rfl,hh,hE,hr⟩:=h;exact⟨b,cur,T,rfl,(hb b rfl (Q9.1 hh).1).trans hh,hE,hr.mono hs hg⟩
 |row e k cs=>
  obtain⟨vs,ho,hk,hr⟩:=h;refine⟨vs,⟨ho.1,?_⟩,hk,hr.mono hs hg⟩;rcases ho.2 with hn|⟨g,cap,cur,rfl,hb1,hh,rest⟩
  ·exact .inl hn
  ·exact .inr ⟨g,cap,cur,rfl,hb1,(hb g rfl (Q9.1 hh).1).trans hh,rest⟩
theorem xR.zT{E:En}{w:World}{M:Nat->Prop}{G:Gh}{v:Value}{c:yD}(h:xR E w M G v c)(hl:c.live=true){b:Nat}(hb:cp v=some b):
  b<w.heap.size/\(E.rb=some b\/E.w0.heap.size<=b):=by
 cases c with
 |dead=>cases hl
 |box cs=>
  obtain⟨b',cur,T,rfl,hh,hE,_⟩:=h;simp only[cp,Qf]at hb;subst hb;exact⟨(Q9.1 hh).1,hE⟩
 |row e k cs=>
  obtain⟨vs,ho,_⟩:=h;rcases ho.2 with⟨rfl,_⟩|⟨g,cap,cur,rfl,hb1,hh,rest⟩
  ·simp[cp]at hb
  ·simp only[cp,Qf]at hb;subst hb;exact⟨(Q9.1 hh).1,(Gt rfl hb1).imp (·.2) id⟩
section
variable {E : En} {S : St} {a : Act} {w : World} {L : Nat -> Value}
theorem Marks.oth{w':World}(h:Marks E a w)(ho:DS w w'):Marks E a w':=⟨h.none,h.nodup,fun d hd=>by
 obtain⟨D,h1,h2,h3⟩:=h.at_ d hd
 exact⟨D,h1,h2,ho.same D _ h3 rfl⟩⟩
theorem xR.cells{M:Nat->Prop}{G:Gh}{v:Value}{c:yD}(h:xR E w M G v c)(hl:c.live=true){b:Nat}(hb:cp v=some b):∃o,w.heap[b]?=some o/\isC o=true:=by
 cases c with
 |dead=>cases hl
 |box cs=>
  obtain⟨b',cur,T,rfl,hh,hE,_⟩:=h;simp only[cp,Qf]at hb;subst hb;exact⟨_,hh,rfl⟩
 |row e k cs=>
  obtain⟨vs,ho,_⟩:=h;rcases ho.2 with⟨rfl,_⟩|⟨g,cap,cur,rfl,hb1,hh,rest⟩
  ·simp[cp]at hb
  ·simp only[cp,Qf]at hb;subst hb;exact⟨_,hh,rfl⟩
theorem LO{a:Act}{d t:Nat}{v:Value}(h:t≠d):(a.put (some d) v).tmps.getD t undef=a.tmps.getD t undef:=by
 simp only[Act.put,QN];rw[Array.getElem?_setIfInBounds_ne (fun e=>h e.symm)]
theorem Rel.put(h:Rel E S a w L){d:Nat}{x:PV}{v:Value}(hd:E.can d)(hx:bm w (bu E S L) (S.gh L) x v):
  Rel E {S with env:=bN S.env d x} (a.put (some d) v) w L:=by
 refine⟨⟨h.defers.none,h.defers.nodup,h.defers.at_⟩,⟨by simp[Act.put,h.size.1],fun t u hu=> ?_⟩,fun t=> ?_,h.obj,h.apart,h.fresh,h.fr,h.De⟩
 ·rw[LO (fun e=>by subst e;rw[hd.2]at hu;cases hu)]
  exact h.size.2 t u hu
 show bm w (bu E S L) (S.gh L) (bN S.env d x t) _
 by_cases ht:t=d
 ·subst ht;have:(a.put (some t) v).tmps.getD t undef=v:=by simp[Act.put,QN,Array.getElem?_setIfInBounds_self_of_lt (show t<a.tmps.size by rw[h.size.1];exact hd.1)]
  rw[this,cq];exact hx
 ·have:(a.put (some d) v).tmps.getD t undef=a.tmps.getD t undef:=by
   simp only[Act.put,QN];rw[Array.getElem?_setIfInBounds_ne (fun e=>ht e.symm)]
  rw[this,cP _ _ ht];exact h.env t
theorem Rel.grow(h:Rel E S a w L){w':World}(hos:w'.os=w.os)(htape:w'.tape=w.tape)(hout:w'.output=w.output)(hsz:w.heap.size<=w'.heap.size)
  (hb:∀b,b<w.heap.size->w'.heap[b]?=w.heap[b]?) (hdr:w.drawn<=w'.drawn:=by first|exact QI _|(simp;done)|omega):Rel E S a w' L/\dW w w' (bu E S L) (bu E S L):=by
 have hs:dW w w' (bu E S L) (bu E S L):=⟨fun p v hp hm=>⟨(World.cell?_of_block (hb _ (XC hp))).trans hp,hm⟩,fun k _ _ hk hm=>⟨(hb k (Q9.1 hk).1).trans hk,hm⟩⟩
 have ho:DS w w':=⟨hsz,fun k o hk _=>(hb k (Q9.1 hk).1).trans hk⟩
 refine⟨⟨h.defers.oth ho,h.size,fun t=>(h.env t).mono hs (Gh.le.refl _),fun id hid=>(h.obj id hid).mono hs (Gh.le.refl _) (fun b _ hlt=>hb b hlt),h.apart,h.fresh,
  ⟨⟨hos.trans h.fr.os,htape.trans h.fr.tape,hout.trans h.fr.output,QK h.fr.size hsz,fun b h1 h2=>(hb b (QJ h1 h.fr.size)).trans (h.fr.block b h1 h2),QK h.fr.drawn hdr⟩,h.fr.ko.trans ho⟩,h.De⟩,hs⟩
theorem Rel.uQ(h:Rel E S a w L){w':World}{id:Nat}(hid:id<S.N)(o:gp)(l:Value)
  (hv:(o.av=(S.H id).av/\l=L id/\(S.H id).c.live=true)\/(S.H id).av<o.av)
  (hos:w'.os=w.os) (htape:w'.tape=w.tape) (hout:w'.output=w.output) (hsz:w.heap.size<=w'.heap.size)
  (hb:∀b,b<w.heap.size->((S.H id).c.live=true->cp (L id)≠some b)->w'.heap[b]?=w.heap[b]?)
  (hl:∀b,o.c.live=true->cp l=some b->((S.H id).c.live=true/\cp (L id)=some b)\/w.heap.size<=b)
  (hnew:dW w w' (bu E S L) (bu E {S with H:=bN S.H id o} (bN L id l))->(S.gh L).le (St.gh {S with H:=bN S.H id o} (bN L id l))->
   xR E w' (bu E {S with H:=bN S.H id o} (bN L id l)) (St.gh {S with H:=bN S.H id o} (bN L id l)) l o.c)
  (hdr:w.drawn<=w'.drawn:=by first|exact QI _|(simp;done)|omega):
  Rel E {S with H:=bN S.H id o} a w' (bN L id l)/\dW w w' (bu E S L) (bu E {S with H:=bN S.H id o} (bN L id l))/\(S.gh L).le (St.gh {S with H:=bN S.H id o} (bN L id l)):=by
 have hg:(S.gh L).le (St.gh {S with H:=bN S.H id o} (bN L id l)):=by
  refine⟨QI _,fun j hj=> ?_⟩
  by_cases hji:j=id
  ·subst hji;rcases hv with⟨e1,e2,_⟩|e
   ·exact .inl ⟨by simp[St.gh,cq,e1],by simp[St.gh,cq,e2]⟩
   ·exact .inr (by simpa[St.gh,cq]using e)
  ·exact .inl ⟨by simp[St.gh,cP _ _ hji],by simp[St.gh,cP _ _ hji]⟩
 have hm:∀b,b<w.heap.size->bu E {S with H:=bN S.H id o} (bN L id l) b->bu E S L b:=by
  rintro b hlt (⟨j,hj,hlive,hblk⟩|hX)
  case inr=>exact .inr hX
  simp only at hj hlive
  by_cases hji:j=id
  ·subst hji;rw[cq]at hlive hblk;rcases hl b hlive hblk with⟨h1,h2⟩|h1
   ·exact .inl ⟨j,hj,h1,h2⟩
   ·omega
  ·rw[cP _ _ hji]at hlive hblk;exact .inl ⟨j,hj,hlive,hblk⟩
 have ho:DS w w':=⟨hsz,fun k o hk hc=>(hb k (Q9.1 hk).1 (fun h1 h2=>by
  obtain⟨o',h3,h4⟩:=(h.obj id hid).cells h1 h2;rw[hk]at h3;injection h3 with h3
  rw[h3,h4]at hc
  cases hc)).trans hk⟩
 have hs:dW w w' (bu E S L) (bu E {S with H:=bN S.H id o} (bN L id l)):=by
  refine⟨fun p v hp hnm=> ?_,fun k _ _ hk hnm=>⟨ho.same k _ hk rfl,fun hm'=>hnm (hm _ (Q9.1 hk).1 hm')⟩⟩
  have hlt:=XC hp;exact⟨(World.cell?_of_block (hb _ hlt (fun h1 h2=>hnm (.inl ⟨id,hid,h1,h2⟩)))).trans hp,fun hm'=>hnm (hm _ hlt hm')⟩
 refine⟨⟨h.defers.oth ho,h.size,fun t=>(h.env t).mono hs hg,fun j hj=> ?_,?_,fun j hj=> ?_,?_,?_⟩,hs,hg⟩
 ·simp only at hj ⊢
  by_cases hji:j=id
  ·subst hji;rw[cq,cq];exact hnew hs hg
  ·rw[cP _ _ hji,cP _ _ hji]
   cases hlv:(S.H j).c.live with
   |false=>
    cases hc:(S.H j).c with
    |dead=>trivial
    |box cs=>rw[hc]at hlv;cases hlv
    |row e k cs=>rw[hc]at hlv;cases hlv
   |true=>
    refine(h.obj j hj).mono hs hg (fun b hbj hlt=>hb b hlt (fun h1 h2=>hji (h.apart j id b hj hid hlv h1 hbj h2)))
 ·intro i j b hi hj hli hlj hbi hbj;simp only at hi hj hli hlj
  by_cases hii:i=id
  ·by_cases hjj:j=id
   ·rw[hii,hjj]
   ·subst hii;rw[cq]at hli hbi;rw[cP _ _ hjj]at hlj hbj;rcases hl b hli hbi with⟨h1,h2⟩|h1
    ·exact h.apart i j b hi hj h1 hlj h2 hbj
    ·have:=((h.obj j hj).zT hlj hbj).1;omega
  ·rw[cP _ _ hii]at hli hbi
   by_cases hjj:j=id
   ·subst hjj;rw[cq]at hlj hbj;rcases hl b hlj hbj with⟨h1,h2⟩|h1
    ·exact h.apart i j b hi hj hli h1 hbi h2
    ·have:=((h.obj i hi).zT hli hbi).1;omega
   ·rw[cP _ _ hjj]at hlj hbj;exact h.apart i j b hi hj hli hlj hbi hbj
 ·simp only at hj ⊢;rw[cP _ _ (by omega)]
  exact h.fresh j hj
 ·refine⟨⟨hos.trans h.fr.os,htape.trans h.fr.tape,hout.trans h.fr.output,QK h.fr.size hsz,fun b h1 h2=> ?_,QK h.fr.drawn hdr⟩,h.fr.ko.trans ho⟩
  refine(hb b (QJ h1 h.fr.size) (fun h3 h4=> ?_)).trans (h.fr.block b h1 h2)
  rcases((h.obj id hid).zT h3 h4).2 with h5|h5
  ·exact h2 h5
  ·omega
 ·intro hb0 hlv hvr;simp only at hlv hvr
  by_cases hi0:0=id
  ·subst hi0;rw[cq]at hlv hvr ⊢;rcases hv with⟨e1,e2,e3⟩|e
   ·rw[e2];exact h.De hb0 e3 (by omega)
   ·omega
  ·rw[cP _ _ hi0]at hlv hvr ⊢;exact h.De hb0 hlv hvr
theorem Rel.drew(h:Rel E S a w L)(n:Nat)(hn:w.drawn<=n:=by first|exact QI _|exact Nat.le_add_right _ _|exact Nat.le_succ _|assumption|omega):Rel E S a {w with drawn:=n} L:=
 (h.grow (w':={w with drawn:=n}) rfl rfl rfl (QI _) (fun _ _=>rfl) hn).1
theorem Rel.room(h:Rel E S a w L)(k:Nat):Rel E {S with N:=S.N+k} a w L:=by
 have hm:∀b,bu E {S with N:=S.N+k} L b↔bu E S L b:=by
  intro b;constructor
  ·rintro(⟨j,hj,hl,hb⟩|hX)
   case inr=>exact .inr hX
   simp only at hj hl
   by_cases hlt:j<S.N
   ·exact .inl ⟨j,hlt,hl,hb⟩
   ·rw[h.fresh j (by omega)]at hl
    cases hl
  ·rintro(⟨j,hj,hl,hb⟩|hX)
   ·exact .inl ⟨j,by simp only;omega,hl,hb⟩
   ·exact .inr hX
 have hs:dW w w (bu E S L) (bu E {S with N:=S.N+k} L):=(dW.of fun _ hn=>fun hm'=>hn ((hm _).1 hm'))
 have hg:(S.gh L).le (St.gh {S with N:=S.N+k} L):=⟨by simp[St.gh],fun _ _=> .inl ⟨rfl,rfl⟩⟩
 refine⟨h.defers,h.size,fun t=>(h.env t).mono hs hg,fun id hid=> ?_,fun i j b hi hj hli hlj hbi hbj=> ?_,fun id hid=>h.fresh id (by simp only at hid;omega),h.fr,h.De⟩
 ·by_cases hlt:id<S.N
  ·exact(h.obj id hlt).mono hs hg (fun _ _ _=>rfl)
  ·simp only;rw[h.fresh id (by omega)]
   trivial
 ·simp only at hi hj hli hlj
  have hi':i<S.N:=by
   rcases Nat.lt_or_ge i S.N with h1|h1
   ·exact h1
   ·rw[h.fresh i h1]at hli;cases hli
  have hj':j<S.N:=by
   rcases Nat.lt_or_ge j S.N with h1|h1
   ·exact h1
   ·rw[h.fresh j h1]at hlj;cases hlj
  exact h.apart i j b hi' hj' hli hlj hbi hbj
end
end
section
open Go.RowKit
inductive bq where
 |tmp (t:Nat)
 |yO (x:PV)
def bq.val(S:St):bq->PV
 | .tmp t=>S.env t
 | .yO x=>x
inductive LK where
 |i
 |s
 |b
inductive bO where
 |pE (x:bq)
 |pick (c x y:bq)
 |box (x:bq)
 |Fb (x:bq)
 |alloc (z:List PV)
 |load (n:Option Nat) (p:bq)
 |store (n:Nat) (p x:bq)
 |build (z:List PV) (ps:List (Nat×Nat×bq))
 |OL (m:Bool) (e k:Nat) (z:List (List PV)) (ps:List (Nat×bq))
 |Bn (off:Nat) (p:bq)
 |tf (k:Nat) (x i:bq)
 |Br (k len:Nat) (x i:bq)
 |bin (op:BinOp) (x y:bq)
 |mh (neg:Bool) (x y:bq)
 |Ji (neg:Bool) (x y:bq)
 |not (x:bq)
 |conv (k:IntKind) (x:bq)
 |len (isStr:Bool) (x:bq)
 |call (f:FuncId) (xs:List bq)
 |wA (fv:bq) (xs:List bq)
 |c6 (fz:Bool) (e k bytes:Nat) (s x:bq)
 |Bg (x:bq)
 |E5 (i:Nat) (x:bq)
 |K7 (f:FuncId) (caps:List bq)
 |K8 (f:FuncId) (first:List bq)
 |FR (neg:Bool) (ks:List LK) (x y:bq)
 |NH (e k bytes:Nat) (z:List PV) (l c:bq)
 |Ic (k:Nat) (x:bq) (lo hi:Option bq)
 |u9 (mx:Bool) (x y:bq)
 |zI (neg:Bool) (x:bq)
 |clear (k:Nat) (z:List PV) (x:bq)
 |za (x i:bq)
 |Fe (e:Nat) (n:Option Nat) (len k:Nat) (x i:bq)
 |lookup (ok:Bool) (z:PV) (x y:bq)
 |Lf (n:Option Nat) (off:Nat) (x:bq)
inductive RK where
 |no
 |bor (e k:Nat)
 |Sk (e k:Nat)
 |fre (e k:Nat)
structure Model where
 recv:Bool
 pos:Nat
 fresh:Bool
 m:List PV->List PV->Option (PV×List PV)
 rk:RK
 ro:Bool
 rm:List (List PV)->List PV->Option (PV×List (List PV))
abbrev pM:=FuncId->Option Model
def cutAt{α:Type}(p:Nat)(l:List α):List α:=l.take p++l.drop (p+1)
def jF{α:Type}(p:Nat)(x l:List α):List α:=l.take p++x++l.drop p
def PV.closed:PV->Bool
 | .int ..| .bool _| .str _| .lz| .et| .sl _| .ref _| .jc ..=>true
 | .bG _ []=>true
 |_=>false
def PV.plain:PV->Bool
 | .int ..| .bool _| .gS| .str _| .lz| .et| .any| .undef=>true
 |_=>false
def PV.qM:PV->Bool
 | .agg cs=>cs.all PV.plain
 |x=>x.plain
def PV.uV:PV->Bool
 | .eo cs=>cs.all PV.qM
 |x=>x.qM
def PV.bE:PV->Bool
 | .agg cs| .eo cs| .bG _ cs=>cs.all PV.closed
 |x=>x.closed
def PV.wy:PV->Bool
 | .eo cs=>cs.all PV.bE
 |x=>x.bE
def fz(H:Nat->gp)(ex:Option Nat):Nat->PV->PV
 |0,x=>match x with| .et=> .sl []|x=>if x.closed then x else .any
 |_+1,.et=> .sl []
 |n+1,.own id av=>if some id=ex\/(H id).av≠av then .any else
   match(H id).c with
   | .row _ _ es=> .sl (es.map fun e=>e.map (fz H ex n))
   |_=> .any
 |n+1,.ptr id av off=>if some id=ex\/(H id).av≠av then .any else
   match(H id).c with
   | .box cs=> .ref ((cs.map (fz H ex n)).drop off)
   |_=> .any
 |n+1,.agg cs=> .agg (cs.map (fz H ex n))
 |n+1,.eo cs=> .eo (cs.map (fz H ex n))
 |n+1,.bG f cs=> .bG f (cs.map (fz H ex n))
 |_+1,x=>if x.closed then x else .any
def nz:PV->PV
 | .et=> .sl []
 |x=>x
def PV.Ul:PV->Bool
 | .et=>false
 |_=>true
def Dl(es:List (List PV)):List (List PV):=es.map fun e=>e.map nz
def BA(es:List (List PV)):Bool:=es.all fun u=>u.all PV.closed
def IC(es:List (List PV)):Bool:=es.all fun u=>u.all PV.plain
def AW(m:Model)(e k:Nat)(S:St)(args:List PV):Option (PV×Option (Nat×gp)):=
 match args with
 | .own id av::rest=>
  if(S.H id).av=av then
   match(S.H id).c with
   | .row e' k' es=>
    if e'=e/\k'=k/\BA es=true then
     match m.rm es (rest.map (fz S.H (some id) 9))with
     |some (r,es')=>if(r.uV||rest.all PV.bE&&r.wy)&&BA es'&&(IC es'||rest.all PV.bE)then some (r,some (id,⟨av,.row e k es'⟩))else none
     |none=>none
    else none
   |_=>none
  else none
 |_=>none
def AV(m:Model)(e k:Nat)(S:St)(args:List PV):Option (PV×Option (Nat×gp)):=
 match args with
 | .own id av::rest=>
  if(S.H id).av=av then
   match(S.H id).c with
   | .row e' k' es=>
    if e'=e/\k'=k/\BA es=true then
     match m.rm es (rest.map (fz S.H (some id) 9))with
     |some (_,es')=>if BA es'&&(IC es'||rest.all PV.bE)then some (.own id (av+1),some (id,⟨av+1,.row e k es'⟩))else none
     |none=>none
    else none
   |_=>none
  else none
 |_=>none
def FW(m:Model)(e k:Nat)(nid:Nat)(S:St)(args:List PV):Option (PV×Option (Nat×gp)):=
 match m.rm [] (args.map (fz S.H none 9))with
 |some (_,es')=>if BA es'&&(IC es'||args.all PV.bE)then some (.own nid ((S.H nid).av+1),some (nid,⟨(S.H nid).av+1,.row e k es'⟩))else none
 |none=>none
def nu(Γ:pM)(nid:Nat)(S:St)(f:FuncId)(args:List PV):Option (PV×Option (Nat×gp)):=
 match Γ f with
 |none=>none
 |some m=>
  match m.rk with
  | .bor e k=>AW m e k S args
  | .Sk e k=>AV m e k S args
  | .fre e k=>FW m e k nid S args
  | .no=>
  if m.fresh then
   match m.m [] (args.map (fz S.H none 9))with
   |some (_,cs)=>if cs.all PV.closed&&(cs.all PV.plain||args.all PV.bE)then some (.ptr nid ((S.H nid).av+1) 0,some (nid,⟨(S.H nid).av+1,.box cs⟩))else none
   |none=>none
  else if m.recv then
   match args[m.pos]? with
   |some (.ptr id av 0)=>
    if(S.H id).av=av then
     match(S.H id).c with
     | .box cs=>
      if cs.all PV.closed then
       match m.m (cs.map nz) ((cutAt m.pos args).map (fz S.H (some id) 9))with
       |some (r,cs')=>if(r.uV||(cutAt m.pos args).all PV.bE)&&r.wy&&cs'.all PV.closed&&(cs'.all PV.plain||(cutAt m.pos args).all PV.bE)then some (r,if m.ro&&cs.all PV.Ul then none else some (id,⟨av,.box cs'⟩))else none
       |none=>none
      else none
     |_=>none
    else none
   |_=>none
  else
   match m.m [] (args.map (fz S.H none 9))with
   |some (r,_)=>if r.uV||args.all PV.bE&&r.wy then some (r,none)else none
   |none=>none
def Jv(op:BinOp)(k:IntKind)(a b:Int):Option PV:=
 match op with
 | .add=>some (.int k (k.wrap (a+b)))
 | .sub=>some (.int k (k.wrap (a - b)))
 | .mul=>some (.int k (k.wrap (a*b)))
 | .quo=>if b=0 then none else some (.int k (k.wrap (a.tdiv b)))
 | .rem=>if b=0 then none else some (.int k (a.tmod b))
 | .and=>some (.int k (k.wrap ((BitVec.ofInt k.bits a&&&BitVec.ofInt k.bits b).toNat)))
 | .or=>some (.int k (k.wrap ((BitVec.ofInt k.bits a|||BitVec.ofInt k.bits b).toNat)))
 | .xor=>some (.int k (k.wrap ((BitVec.ofInt k.bits a^^^BitVec.ofInt k.bits b).toNat)))
 | .andNot=>some (.int k (k.wrap ((BitVec.ofInt k.bits a&&& ~~~ BitVec.ofInt k.bits b).toNat)))
 | .eql=>some (.bool (decide (a=b)))
 | .neq=>some (.bool (!decide (a=b)))
 | .lss=>some (.bool (decide (a<b)))
 | .leq=>some (.bool (decide (a<=b)))
 | .gtr=>some (.bool (decide (b<a)))
 | .geq=>some (.bool (decide (b<=a)))
 |_=>none
def kJ(a b:ByteArray):Bool:=Op.bytesLess a.toList b.toList
def OP(op:BinOp)(a b:ByteArray):Option PV:=
 match op with
 | .eql=>some (.bool (decide (a=b)))
 | .neq=>some (.bool (!decide (a=b)))
 | .lss=>some (.bool (kJ a b))
 | .leq=>some (.bool (kJ a b||decide (a=b)))
 | .gtr=>some (.bool (!(kJ a b||decide (a=b))))
 | .geq=>some (.bool (!kJ a b))
 |_=>none
def Kf(op:BinOp)(x y:PV):Option PV:=
 match x,y with
 | .int k a,.int k' b=>
  match op with
  | .shl=>if b<0 then none else some (.int k (k.wrap (a*2 ^ (min b.toNat k.bits))))
  | .shr=>if b<0 then none else some (.int k (a.fdiv (2 ^ (min b.toNat k.bits))))
  |_=>if k=k' then Jv op k a b else none
 | .str a,.str b=>OP op a b
 |_,_=>none
def uC:Option Nat->List PV->Option PV
 |none,x::_=>some x
 |none,[]=>none
 |some n,cs=>if n<=cs.length then some (.agg (cs.take n))else none
def iW(cs:List PV)(off:Nat)(xs:List PV):List PV:=cs.take off++xs++cs.drop (off+xs.length)
def lq(S:St):PV->Option (List (List PV))
 | .et=>some []
 | .sl es=>some es
 | .own id av=>if(S.H id).av=av then(match(S.H id).c with| .row _ _ es=>some es|_=>none)else none
 | .view id av k lo n=>if(S.H id).av=av then(match(S.H id).c with| .row _ k' es=>if k'=k then some ((es.drop lo).take n)else none|_=>none)else none
 |_=>none
def uj(S:St)(y:Option bq)(d:Int):Option Int:=
 match y with
 |none=>some d
 |some l=>match l.val S with| .int _ n=>some n|_=>none
def sx(S:St):List PV->List (Nat×Nat×bq)->Option (List PV)
 |cs,[]=>some cs
 |cs,(off,n,x)::rest=>
  if(x.val S).cells.length=n/\off+n<=cs.length/\(x.val S).cells.all PV.one=true then sx S (iW cs off (x.val S).cells) rest else none
def vp(S:St)(k:Nat):List (List PV)->List (Nat×bq)->Option (List (List PV))
 |es,[]=>some es
 |es,(i,x)::rest=>
  if(x.val S).cells.length=k/\i<es.length/\(x.val S).cells.all PV.one=true then vp S k (es.set i (x.val S).cells) rest else none
def za(s:ByteArray)(n:Int):Option Int:=if 0<=n then(s[n.toNat]?).map fun b=>(b.toNat:Int)else none
def Ek(k:IntKind)(a:Int)(l:IntKind)(b:Int):List PV->List PV->Option (Option PV)
 |[],[]=>some none
 | .agg [.int k' a',.int l' b']::ks,v::vs=>if k=k'/\l=l' then(if a=a'/\b=b' then some (some v)else Ek k a l b ks vs)else none
 |_,_=>none
def mL:List LK->List PV->List PV->Option Bool
 |[],[],[]=>some true
 | .i::ks,.int k a::cs,.int l b::ds=>if k=l then(mL ks cs ds).map fun r=>decide (a=b)&&r else none
 | .s::ks,.str a::cs,.str b::ds=>(mL ks cs ds).map fun r=>decide (a=b)&&r
 | .b::ks,.bool a::cs,.bool b::ds=>(mL ks cs ds).map fun r=>decide (a=b)&&r
 |_,_,_=>none
def Jw(z:Bool)(id av e k:Nat)(es:List (List PV)):Option (PV×Option (Nat×gp)):=
 match z with
 |false=>some (.own id av,some (id,⟨av,.row e k es⟩))
 |true=>if es.all (fun u=>u.all PV.closed)then some (.sl es,some (id,⟨av,.dead⟩))else none
def exec(Γ:pM)(nid:Nat)(S:St):bO->Option (PV×Option (Nat×gp))
 | .pE x=>some (x.val S,none)
 | .pick c x y=>match c.val S with
  | .bool true=>some (x.val S,none)
  | .bool false=>some (y.val S,none)
  |_=>none
 | .box x=>if(x.val S).cells.all PV.one then some (.ptr nid ((S.H nid).av+1) 0,some (nid,⟨(S.H nid).av+1,.box (x.val S).cells⟩))else none
 | .Fb x=>if(x.val S).cells.all PV.one&&(x.val S).cells.all PV.closed then some (.ref (x.val S).cells,none)else none
 | .alloc z=>some (.ptr nid ((S.H nid).av+1) 0,some (nid,⟨(S.H nid).av+1,.box z⟩))
 | .load n p=>match p.val S with
  | .ptr id av off=>if(S.H id).av=av then(match(S.H id).c with| .box cs=>(uC n (cs.drop off)).map (·,none)|_=>none)else none
  | .fg id av k i off=>if(S.H id).av=av then(match(S.H id).c with| .row _ k' es=>if k=k' then(match es[i]? with|some e=>(uC n (e.drop off)).map (·,none)|none=>none)else none|_=>none)else none
  | .ref cs=>(uC n cs).map (·,none)
  |_=>none
 | .store n p x=>if(x.val S).cells.length=n/\(x.val S).cells.all PV.one=true then
   match p.val S with
   | .ptr id av off=>if(S.H id).av=av then(match(S.H id).c with| .box cs=>if off+n<=cs.length then some (.undef,some (id,⟨av,.box (iW cs off (x.val S).cells)⟩))else none|_=>none)else none
   | .fg id av k i off=>if(S.H id).av=av then(match(S.H id).c with| .row e k' es=>if k=k' then(match es[i]? with|some c=>if off+n<=c.length then some (.undef,some (id,⟨av,.row e k (es.set i (iW c off ((x.val S).cells.map nz)))⟩))else none|none=>none)else none|_=>none)else none
   |_=>none
  else none
 | .build z ps=>(sx S z ps).map fun cs=>(.agg cs,none)
 | .OL m e k z ps=>match vp S k z ps with
  |some es=>if m=false/\es.all (fun u=>u.all PV.closed)=true then some (.sl (Dl es),none)else some (.own nid ((S.H nid).av+1),some (nid,⟨(S.H nid).av+1,.row e k (Dl es)⟩))
  |none=>none
 | .Bn off p=>match p.val S with
  | .ptr id av o=>if(S.H id).av=av then(match(S.H id).c with| .box _=>some (.ptr id av (o+off),none)|_=>none)else none
  | .fg id av k i o=>if(S.H id).av=av then(match(S.H id).c with| .row _ _ es=>if i<es.length then some (.fg id av k i (o+off),none)else none|_=>none)else none
  | .ref cs=>some (.ref (cs.drop off),none)
  |_=>none
 | .tf k x i=>match i.val S with
  | .int _ n=>match x.val S with
   | .sl es=>if 0<=n/\n<es.length then(match es[n.toNat]? with|some e=>if e.length=k then some (.ref e,none)else none|none=>none)else none
   | .own id av=>if(S.H id).av=av then(match(S.H id).c with| .row _ k' es=>if k=k'/\0<=n/\n<es.length then some (.fg id av k n.toNat 0,none)else none|_=>none)else none
   | .view id av k0 lo m=>if(S.H id).av=av then(match(S.H id).c with| .row _ k' es=>if k=k'/\k0=k/\0<=n/\n<m/\lo+n.toNat<es.length then some (.fg id av k (lo+n.toNat) 0,none)else none|_=>none)else none
   |_=>none
  |_=>none
 | .Br k len x i=>match i.val S with
  | .int _ n=>if 0<=n/\n<len then(match x.val S with
   | .ptr id av o=>if(S.H id).av=av then(match(S.H id).c with| .box _=>some (.ptr id av (o+n.toNat*k),none)|_=>none)else none
   | .ref cs=>some (.ref (cs.drop (n.toNat*k)),none)
   |_=>none)else none
  |_=>none
 | .bin op x y=>(Kf op (x.val S) (y.val S)).map (·,none)
 | .mh neg x y=>match x.val S,y.val S with
  | .agg [.int k a,.str s],.agg [.int k' b,.str t]=>if k=k' then some (.bool (xor neg (decide (a=b)&&decide (s=t))),none)else none
  |_,_=>none
 | .FR neg ks x y=>match x.val S,y.val S with
  | .agg cs,.agg ds=>(mL ks cs ds).map fun b=>(.bool (xor neg b),none)
  |_,_=>none
 | .Ji neg x y=>match x.val S,y.val S with
  | .bool a,.bool b=>some (.bool (xor neg (decide (a=b))),none)
  |_,_=>none
 | .not x=>match x.val S with
  | .bool b=>some (.bool !b,none)
  |_=>none
 | .conv k x=>match x.val S with
  | .int _ n=>some (.int k (k.wrap n),none)
  |_=>none
 | .len true x=>match x.val S with
  | .str s=>some (.int .i64 s.size,none)
  |_=>none
 | .len false x=>(lq S (x.val S)).map fun es=>(.int .i64 es.length,none)
 | .call f xs=>nu Γ nid S f (xs.map (·.val S))
 | .wA fv xs=>match fv.val S with
  | .bG f caps=>nu Γ nid S f (xs.map (·.val S)++caps)
  | .jN f first=>nu Γ nid S f (first++xs.map (·.val S))
  |_=>none
 | .c6 z e k bytes s x=>match lq S (x.val S)with
  |some news=>if news.all (fun u=>u.length==k&&u.all PV.one)then(match s.val S with
   | .et=>if news.length*bytes<=140737488355328/\news.length<=maxLen then Jw z nid ((S.H nid).av+1) e k news else none
   | .own id av=>if(S.H id).av=av then(match(S.H id).c with
    | .row e' k' es=>if e=e'/\k=k'/\(es.length+news.length)*bytes<=140737488355328/\es.length+news.length<=maxLen then Jw z id (av+1) e k (es++news)else none
    |_=>none)else none
   |_=>none)else none
  |none=>none
 | .Bg x=>match x.val S with
  | .ptr id av off=>if(S.H id).av=av then(match(S.H id).c with| .box _=>some (.ptr id av off,none)|_=>none)else none
  | .ref cs=>some (.ref cs,none)
  | .bG f cs=>some (.bG f cs,none)
  |_=>none
 | .E5 i x=>match x.val S with
  | .eo cs=>(cs[i]?).map (·,none)
  |_=>none
 | .K7 f caps=>some (.bG f (caps.map (·.val S)),none)
 | .K8 f first=>some (.jN f (first.map (·.val S)),none)
 | .NH e k bytes z l c=>match l.val S,c.val S with
  | .int _ n,.int _ m=>if n=m/\0<=n/\n.toNat*bytes<=140737488355328/\n.toNat<=maxLen then some (.own nid ((S.H nid).av+1),some (nid,⟨(S.H nid).av+1,.row e k (List.replicate n.toNat (z.map nz))⟩))else none
  |_,_=>none
 | .Ic k x lo hi=>match x.val S with
  | .sl es=>if es.all (fun e=>e.length==k)then
   match(match lo with|none=>some (0:Int)|some l=>(match l.val S with| .int _ n=>some n|_=>none)),(match hi with|none=>some (es.length:Int)|some h=>(match h.val S with| .int _ n=>some n|_=>none))with
   |some l,some h=>if 0<=l/\l<=h/\h<=es.length then some (.sl ((es.take h.toNat).drop l.toNat),none)else none
   |_,_=>none
   else none
  | .own id av=>if(S.H id).av=av then(match(S.H id).c with
   | .row _ k' es=>if k=k' then
    match uj S lo 0,uj S hi es.length with
    |some l,some h=>if 0<=l/\l<=h/\h<=es.length then some (.view id av k l.toNat (h.toNat - l.toNat),none)else none
    |_,_=>none
    else none
   |_=>none)else none
  | .view id av k0 lo0 n0=>if(S.H id).av=av then(match(S.H id).c with
   | .row _ k' _=>if k=k'/\k0=k then
    match uj S lo 0,uj S hi n0 with
    |some l,some h=>if 0<=l/\l<=h/\h<=n0 then some (.view id av k (lo0+l.toNat) (h.toNat - l.toNat),none)else none
    |_,_=>none
    else none
   |_=>none)else none
  |_=>none
 | .u9 mx x y=>match x.val S,y.val S with
  | .int k a,.int k' b=>if k=k' then some (.int k (if mx then(if b>a then b else a)else(if b<a then b else a)),none)else none
  |_,_=>none
 | .zI neg x=>match x.val S with
  | .et=>some (.bool !neg,none)
  |y=>match lq S y with
   |some []=>some (.gS,none)
   |some (_::_)=>some (.bool neg,none)
   |none=>none
 | .za x i=>match x.val S,i.val S with
  | .str s,.int _ n=>(za s n).map fun b=>(.int .u8 b,none)
  |_,_=>none
 | .Fe _ n len k x i=>match x.val S,i.val S with
  | .agg cs,.int _ j=>if 0<=j/\j<len then(uC n ((cs.drop (j.toNat*k)).map nz)).map (·,none)else none
  |_,_=>none
 | .lookup ok z x y=>match x.val S,y.val S with
  | .jc ks vs,.agg [.int k a,.int l b]=>(Ek k a l b ks vs).map fun r=>(if ok then .eo [r.getD (nz z),.bool r.isSome]else r.getD (nz z),none)
  |_,_=>none
 | .Lf n off x=>match x.val S with
  | .agg cs=>(uC n (cs.drop off)).map (·,none)
  |_=>none
 | .clear k z x=>match x.val S with
  | .view id av k0 lo n=>if(S.H id).av=av then(match(S.H id).c with
   | .row e k' es=>if k=k'/\k0=k/\z.length=k/\z.all PV.one=true then some (.eo [],some (id,⟨av,.row e k (es.take lo++List.replicate n (z.map nz)++es.drop (lo+n))⟩))else none
   |_=>none)else none
  |_=>none
structure SG where
 d:Option Nat
 g:Option (Nat×Bool)
 op:bO
def St.c6(S:St)(d:Option Nat)(x:PV)(wr:Option (Nat×gp)):St:=
 {env:=match d with|some d=>bN S.env d x|none=>S.env,H:=match wr with|some (id,o)=>bN S.H id o|none=>S.H,N:=S.N}
def SG.wanted(S:St)(o:SG):Option Bool:=
 match o.g with
 |none=>some true
 |some (t,want)=>match S.env t with
  | .bool b=>some (b==want)
  | .undef=>some false
  |_=>none
def xf(Γ:pM)(nid:Nat)(S:St)(o:SG):Option St:=
 match o.wanted S with
 |some true=>(exec Γ nid S o.op).map fun p=>S.c6 o.d p.1 p.2
 |some false=>some (S.c6 o.d .undef none)
 |none=>none
def B5(Γ:pM):Nat->List SG->St->Option St
 |_,[],S=>some S
 |nid,o::rest,S=>match xf Γ nid S o with
  |some S'=>B5 Γ (nid+1) rest S'
  |none=>none
def AU:Value->Option PV
 | .bool b=>some (.bool b)
 | .int k n=>some (.int k n)
 | .string s=>some (.str s)
 | .pointer none=>some .lz
 | .slice none 0 0=>some .et
 | .nilFunc=>some .any
 |_=>none
def bB:Operand->Option bq
 | .tmp t=>some (.tmp t)
 | .const v=>(AU v).map .yO
 | .func f=>some (.yO (.bG f []))
 | .global _=>none
def ur(P:Program)(t:TypeId):Option (Option Nat):=
 match P.underlying t with
 |some (.struct _)|some (.array _ _)=>(P.info? t).map fun i=>some i.size
 |some _=>some none
 |none=>none
def vT(P:Program)(t:TypeId):Option (List PV):=
 match P.info? t with
 |some i=>match i.zero with
  |some z=>if z.cells.size=i.size then z.cells.toList.mapM AU else none
  |none=>none
 |none=>none
def xv(place:Nat->Option (Nat×Nat))(parts:List (Nat×Operand)):Option (List (Nat×Nat×bq)):=
 parts.mapM fun p=>do
  let q <-place p.1
  let y <-bB p.2
  some (q.1,q.2,y)
def P7(P:Program)(sh:TypeId->Option (List LK)):List Field->Nat->Option (List LK)
 |[],_=>some []
 |f::fs,off=>
  if f.name≠ "_"/\f.offset=off then
   match sh f.type,P.info? f.type with
   |some ks,some i=>if i.size=ks.length then(P7 P sh fs (off+ks.length)).map (ks++·)else none
   |_,_=>none
  else none
def AS(P:Program):Nat->TypeId->Option (List LK)
 |0,_=>none
 |d+1,t=>match P.underlying t with
  |some (.int _)=>some [.i]
  |some .string=>some [.s]
  |some .bool=>some [.b]
  |some (.struct fs)=>if P.stoodInHeld t=false then P7 P (AS P d) fs.toList 0 else none
  |_=>none
def acO(hs:List Nat)(o:Oper):Bool:=match o.dst with|some t=>hs.contains t|none=>false
def Ll(P:Program)(hs:List Nat)(o:Oper):Option bO:=
 match o.op with
 | .move x| .assign x=>do some (.pE (<-bB x))
 | .pick c a b=>do some (.pick (<-bB c) (<-bB a) (<-bB b))
 | .box _ x=>do
  let y <-bB x
  some (match o.dst with|some t=>(match hs.contains t with|true=> .Fb y|false=> .box y)|none=> .box y)
 | .alloc t=>do some (.alloc (<-vT P t))
 | .load t p=>do some (.load (<-ur P t) (<-bB p))
 | .store t p x=>do some (.store (<-P.info? t).size (<-bB p) (<-bB x))
 | .build t parts=>
  match P.underlying t with
  |some (.struct fields)=>do
   let z <-vT P t
   let places <-fields.toList.mapM (fun f=>(P.info? f.type).map fun i=>(f.offset,i.size))
   some (.build z (<-xv (fun i=>places[i]?) parts.toList))
  |some (.array _ e)=>do
   let z <-vT P t
   let i <-P.info? e
   some (.build z (<-xv (fun j=>some (j*i.size,i.size)) parts.toList))
  |_=>none
 | .buildSlice t len parts=>
  match P.underlying t with
  |some (.slice e)=>do
   let i <-P.info? e
   let z <-vT P e
   let ps <-parts.toList.mapM fun p=>(bB p.2).map fun y=>(p.1,y)
   if len*i.size<=16777216/\0<i.size/\len<=maxLen then some (.OL (match o.dst with|some t=>hs.contains t|none=>true) e i.size (List.replicate len z) ps)else none
  |_=>none
 | .fieldAddr s x f=>
  match P.underlying s with
  |some (.struct fields)=>do
   let fd <-fields[f]?
   let i <-P.info? fd.type
   if i.size=0 then none else some (.Bn fd.offset (<-bB x))
  |_=>none
 | .indexAddr t x i=>
  match P.underlying t with
  |some (.slice e)=>do some (.tf (<-P.info? e).size (<-bB x) (<-bB i))
  |some (.array n e)=>do some (.Br (<-P.info? e).size n (<-bB x) (<-bB i))
  |_=>none
 | .binOp op t x y _=>
  match P.underlying t with
  |some (.struct fs)=>
   match fs.toList with
   |[f,g]=>
    match P.underlying f.type,P.underlying g.type with
    |some (.int _),some .string=>
     if f.offset=0/\g.offset=1/\f.name≠ "_"/\g.name≠ "_"/\P.stoodInHeld t=false/\P.eqGuardType P.depth t=false then
      match op with
      | .eql=>do some (.mh false (<-bB x) (<-bB y))
      | .neq=>do some (.mh true (<-bB x) (<-bB y))
      |_=>none
     else none
    |_,_=>
     match AS P 64 t with
     |some ks=>
      if P.eqGuardType P.depth t=false then
       match op with
       | .eql=>do some (.FR false ks (<-bB x) (<-bB y))
       | .neq=>do some (.FR true ks (<-bB x) (<-bB y))
       |_=>none
      else none
     |none=>none
   |_=>
    match AS P 64 t with
    |some ks=>
     if P.eqGuardType P.depth t=false then
      match op with
      | .eql=>do some (.FR false ks (<-bB x) (<-bB y))
      | .neq=>do some (.FR true ks (<-bB x) (<-bB y))
      |_=>none
     else none
    |none=>none
  |some (.slice _)=>
   match y with
   | .const (.slice none 0 0)=>
    match op with
    | .eql=>do some (.zI false (<-bB x))
    | .neq=>do some (.zI true (<-bB x))
    |_=>none
   |_=>none
  |some .bool=>
   match op with
   | .eql=>do some (.Ji false (<-bB x) (<-bB y))
   | .neq=>do some (.Ji true (<-bB x) (<-bB y))
   |_=>none
  |_=>do some (.bin op (<-bB x) (<-bB y))
 | .unOp .not _ x=>do some (.not (<-bB x))
 | .convert src dst x=>
  match P.underlying src,P.underlying dst with
  |some (.int _),some (.int k)=>do some (.conv k (<-bB x))
  |_,_=>none
 | .index t x i=>
  match P.underlying t with
  |some .string=>do some (.za (<-bB x) (<-bB i))
  |some (.array len e)=>do some (.Fe e (<-ur P e) len (<-P.info? e).size (<-bB x) (<-bB i))
  |_=>none
 | .lookup t m x ok=>
  match P.underlying t with
  |some (.map kt vt)=>
   match P.underlying kt with
   |some (.struct fs)=>
    match fs.toList with
    |[f,g]=>
     match P.underlying f.type,P.underlying g.type with
     |some (.int _),some (.int _)=>
      if f.offset=0/\g.offset=1/\f.name≠ "_"/\g.name≠ "_"/\P.stoodInHeld kt=false then do
       let i <-P.info? vt
       let z0 <-i.zero
       let z <-AU z0
       some (.lookup ok z (<-bB m) (<-bB x))
      else none
     |_,_=>none
    |_=>none
   |_=>none
  |_=>none
 | .nilCheck x=>do some (.Bg (<-bB x))
 | .extract x i=>do some (.E5 i (<-bB x))
 | .makeFunc (.func f) first caps=>if first.size=0 then do some (.K7 f (<-caps.toList.mapM bB))else if caps.size=0 then do some (.K8 f (<-first.toList.mapM bB))else none
 | .makeSlice t l c=>
  match P.underlying t with
  |some (.slice e)=>do
   let i <-P.info? e
   if 0<i.size then some (.NH e i.size i.bytes (<-vT P e) (<-bB l) (<-bB c))else none
  |_=>none
 | .slice t x lo hi none=>
  match P.underlying t with
  |some (.slice e)=>do
   let i <-P.info? e
   some (.Ic i.size (<-bB x) (<-lo.mapM bB) (<-hi.mapM bB))
  |_=>none
 | .call {callee:= .value f,args,..}=>do
  let xs <-args.toList.mapM bB
  match f with
  | .func f=>some (.call f xs)
  |_=>some (.wA (<-bB f) xs)
 | .call {callee:= .builtin b,args,argTypes}=>
  match b,args.toList,argTypes.toList with
  | .len,[x],[t]=>
   match P.underlying t with
   |some .string=>do some (.len true (<-bB x))
   |some (.slice _)=>do some (.len false (<-bB x))
   |_=>none
  | .append,[s,x],[t,t']=>
   match P.underlying t with
   |some (.slice e)=>do
    let i <-P.info? e
    let z <-i.zero
    if t=t'/\z.cells.size=i.size/\0<i.size then some (.c6 (acO hs o) e i.size i.bytes (<-bB s) (<-bB x))else none
   |_=>none
  | .clear,[x],[t]=>
   match P.underlying t with
   |some (.slice e)=>do
    let i <-P.info? e
    some (.clear i.size (<-vT P e) (<-bB x))
   |_=>none
  | .min,[x,y],_=>do some (.u9 false (<-bB x) (<-bB y))
  | .max,[x,y],_=>do some (.u9 true (<-bB x) (<-bB y))
  |_,_,_=>none
 | .field t x i=>
  match P.underlying t with
  |some (.struct fs)=>
   match fs[i]? with
   |some f=>do some (.Lf (<-ur P f.type) f.offset (<-bB x))
   |none=>none
  |_=>none
 |_=>none
end
section
open Go.RowKit
def Mc(recv:Bool)(rb:Nat)(X:Nat->Prop)(b:Nat):Prop:=(recv=true/\b=rb)\/X b
def Enters(P:Program)(f:FuncId):Prop:=∃fn,P.funcs[f]?=some fn/\fn.body.isSome=true/\(fn.name== "runtime.NumGoroutine")=false
def uB(recv:Bool)(rb:Nat):List Value:=if recv then[.pointer (some ⟨rb,0,none⟩)]else[]
def XJ(recv:Bool)(rb:Nat)(X:Nat->Prop)(w:World)(r:PV)(cs':List PV)(e:Ending)(w':World):Prop:=
 ∃(v:Value) (rvs':List Value),e= .returned v/\bm w' (Mc recv rb X) dw r v/\(recv=true->(∃T,w'.heap[rb]?=some (.cells rvs'.toArray T (0,0)))/\bj w' (Mc recv rb X) dw cs' rvs')/\
  Fr (if recv then some rb else none) w w'
def Kk(P:Program)(f:FuncId)(pos:Nat)(recv:Bool)(cs args:List PV)(r:PV)(cs':List PV):Prop:=
 ∀(w:World) (X:Nat->Prop) (_:∀b,X b->b<w.heap.size) (rb:Nat) (T:TypeId) (rvs vs:List Value),
  (recv=true->w.heap[rb]?=some (.cells rvs.toArray T (0,0))/\bj w (Mc recv rb X) dw cs rvs)->bj w (Mc recv rb X) dw args vs->
  Calls P f (jF pos (uB recv rb) vs).toArray w (XJ recv rb X w r cs')
abbrev Con(P:Program)(f:FuncId):=Kk P f 0
theorem R4{α:Type}(p:Nat)(l:List α):jF p [] l=l:=by simp[jF]
def Zg(P:Program)(f:FuncId)(args cs:List PV):Prop:=
 ∀(w:World) (X:Nat->Prop) (_:∀b,X b->b<w.heap.size) (vs:List Value),bj w X dw args vs->
  Calls P f vs.toArray w fun e w'=>∃(b:Nat) (rvs:List Value) (T:TypeId),e= .returned (.pointer (some ⟨b,0,none⟩))/\w.heap.size<=b/\w'.heap[b]?=some (.cells rvs.toArray T (0,0))/\bj w' (fun q=>X q\/q=b) dw cs rvs/\Fr none w w'
def zW(w:World)(M:Nat->Prop)(e k:Nat)(v:Value)(es:List (List PV)):Prop:=
 ∃(vs:List Value),w.ownsRow 0 e k v es.length vs/\(∀x∈es,x.length=k)/\bj w M dw es.flatten vs
def Mv(v:Value)(X:Nat->Prop)(b:Nat):Prop:=cp v=some b\/X b
def Zf(P:Program)(f:FuncId)(e k:Nat)(es:List (List PV))(args:List PV)(r:PV)(es':List (List PV)):Prop:=
 ∀(w:World) (X:Nat->Prop) (_:∀b,X b->b<w.heap.size) (v:Value) (vs:List Value),(∀b,cp v=some b->¬X b)->zW w (Mv v X) e k v es->bj w (Mv v X) dw args vs->
  Calls P f (v::vs).toArray w fun en w'=>∃u,en= .returned u/\bm w' (Mv v X) dw r u/\zW w' (Mv v X) e k v es'/\Fr (cp v) w w'
def MN(P:Program)(f:FuncId)(e k:Nat)(es:List (List PV))(args:List PV)(es':List (List PV)):Prop:=
 ∀(w:World) (X:Nat->Prop) (_:∀b,X b->b<w.heap.size) (v:Value) (vs:List Value),(∀b,cp v=some b->¬X b)->zW w (Mv v X) e k v es->bj w (Mv v X) dw args vs->
  Calls P f (v::vs).toArray w fun en w'=>∃u,en= .returned u/\zW w' (Mv u X) e k u es'/\(∀b,cp u=some b->cp v=some b\/w.heap.size<=b)/\Fr (cp v) w w'
def VU(P:Program)(f:FuncId)(args:List PV)(e k:Nat)(es':List (List PV)):Prop:=
 ∀(w:World) (X:Nat->Prop) (_:∀b,X b->b<w.heap.size) (vs:List Value),bj w X dw args vs->
  Calls P f vs.toArray w fun en w'=>∃u,en= .returned u/\zW w' (Mv u X) e k u es'/\(∀b,cp u=some b->w.heap.size<=b)/\Fr none w w'
def Hp(P:Program)(f:FuncId)(m:Model):Prop:=
 match m.rk with
 | .no=>True
 | .bor e k=>∀es args r es',m.rm es args=some (r,es')->Zf P f e k es args r es'
 | .Sk e k=>∀es args r es',m.rm es args=some (r,es')->MN P f e k es args es'
 | .fre e k=>∀args r es',m.rm [] args=some (r,es')->VU P f args e k es'
def aa2(P:Program)(f:FuncId)(m:Model):Prop:=
 Enters P f/\(m.fresh=false->∀cs args r cs',m.m cs args=some (r,cs')->Kk P f m.pos m.recv cs args r cs')/\(m.fresh=true->∀args r cs,m.m [] args=some (r,cs)->Zg P f args cs)/\Hp P f m/\(m.ro=true->∀cs args r cs',m.m cs args=some (r,cs')->cs'=cs)
def oP(P:Program)(Γ:pM):Prop:=∀f m,Γ f=some m->aa2 P f m
section
variable {P : Program} {E : En} {S : St} {a : Act} {w : World} {L : Nat -> Value}
theorem Fa{M:Nat->Prop}{G:Gh}{v:Value}{x:PV}(h:AU v=some x):bm w M G x v:=by
 unfold AU at h;split at h<;>first|(injection h with h;subst h;first|exact .bool _|exact .int _ _|exact .str _|exact .lz|exact .et|exact .any _)|cases h
theorem Rel.iO(h:Rel E S a w L){x:Operand}{y:bq}(hc:bB x=some y):bm w (bu E S L) (S.gh L) (y.val S) (a.eval x):=by
 cases x with
 |tmp t=>simp only[bB,Qf]at hc;subst hc;exact h.env t
 |const v=>
  simp only[bB,Qb]at hc;obtain⟨p,hp,rfl⟩:=hc;exact Fa hp
 |global g=>simp[bB]at hc
 |func f=>
  simp only[bB,Qf]at hc;subst hc;exact .bG f [] [] rfl (fun i x v hx _=>by simp at hx)
theorem Rel.dm(h:Rel E S a w L):∀{xs:List Operand} {ys:List bq},xs.mapM bB=some ys->bj w (bu E S L) (S.gh L) (ys.map (·.val S)) (xs.map a.eval)
 |[],ys,hc=>by simp at hc;subst hc;exact .nil
 |x::xs,ys,hc=>by
  simp only[Qq75,Qd,Qc,Option.pure_def,Qf]at hc;obtain⟨y,hy,zs,hzs,rfl⟩:=hc;exact .cons (h.iO hy) (h.dm hzs)
section
variable {M : Nat -> Prop} {G : Gh} {v : Value}
theorem bm.og{b:Bool}(h:bm w M G (.bool b) v):v= .bool b:=by cases h;rfl
theorem bm.fU{k:IntKind}{n:Int}(h:bm w M G (.int k n) v):v= .int k n:=by cases h;rfl
theorem bm.yH{s:ByteArray}(h:bm w M G (.str s) v):v= .string s:=by cases h;rfl
theorem bm.rG(h:bm w M G .et v):v= .slice none 0 0:=by cases h;rfl
theorem bm.Zr(h:bm w M G .undef v):v=Go.undef:=by cases h;rfl
theorem bm.Fi{cs:List PV}(h:bm w M G (.eo cs) v):∃vs:List Value,v= .tuple vs.toArray/\bj w M G cs vs:=by cases h with|eo _ vs hl h=>exact⟨vs,rfl,hl,h⟩
theorem bm.pd{cs:List PV}(h:bm w M G (.agg cs) v):∃vs:List Value,v= .agg vs.toArray/\bj w M G cs vs:=by cases h with|agg _ vs hl h=>exact⟨vs,rfl,hl,h⟩
theorem bm.Rb{f:FuncId}{cs:List PV}(h:bm w M G (.jN f cs) v):∃vs:List Value,v= .func (.func f) vs.toArray #[]/\bj w M G cs vs:=by cases h with|jN _ _ vs hl h=>exact⟨vs,rfl,hl,h⟩
theorem bm.yP{f:FuncId}{cs:List PV}(h:bm w M G (.bG f cs) v):∃vs:List Value,v= .func (.func f) #[] vs.toArray/\bj w M G cs vs:=by cases h with|bG _ _ vs hl h=>exact⟨vs,rfl,hl,h⟩
theorem bm.JU{cs:List PV}(h:bm w M G (.ref cs) v):∃(ad:Addr) (vs:List Value),v= .pointer (some ad)/\bj w M dw cs vs/\∀(i:Nat) (u:Value),vs[i]?=some u->w.cell? (ad.add i)=some u/\¬M ad.block:=by
 cases h with|ref _ ad vs hl hc h=>exact⟨ad,vs,rfl,⟨hl,h⟩,hc⟩
theorem bm.ud{id av off:Nat}(h:bm w M G (.ptr id av off) v)(hv:G.V id=av):id<G.N/\v= .pointer ((cp (G.L id)).map fun b=>⟨b,off,none⟩):=by
 cases h with|ptr _ _ _ ad hN hV h=>exact⟨hN,by rw[h hv.symm]⟩
theorem bm.Mz{id av k i off:Nat}(h:bm w M G (.fg id av k i off) v)(hv:G.V id=av):id<G.N/\v= .pointer ((cp (G.L id)).map fun b=>⟨b,i*k+off,none⟩):=by
 cases h with|fg _ _ _ _ _ ad hN hV h=>exact⟨hN,by rw[h hv.symm]⟩
theorem bm.As{id av k lo n:Nat}(h:bm w M G (.view id av k lo n) v)(hv:G.V id=av):id<G.N/\∃a c,v= .slice a n c/\VI (G.L id) k lo n a c:=by
 cases h with|view _ _ _ _ _ ad c hN hV h=>exact⟨hN,ad,c,rfl,h hv.symm⟩
theorem bm.nN{id av:Nat}(h:bm w M G (.own id av) v)(hv:G.V id=av):id<G.N/\v=G.L id:=by
 cases h with|own _ _ ad n c hN hV h=>exact⟨hN,h hv.symm⟩
theorem bm.Fq{es:List (List PV)}(h:bm w M G (.sl es) v):(v= .slice none 0 0/\es=[])\/∃(ad:Addr) (c k:Nat) (vs:List Value),v= .slice (some ad) es.length c/\(∀e∈es,e.length=k)/\bj w M dw es.flatten vs/\
  (∀(i:Nat) (u:Value),vs[i]?=some u->w.cell? (ad.add i)=some u/\¬M ad.block)/\es.length<=c/\c<=maxLen:=by
 cases h with
 |sl _ ad c k vs hk hl hc h hn hm=>exact .inr ⟨ad,c,k,vs,rfl,hk,⟨hl,h⟩,hc,hn,hm⟩
 |slnil=>exact .inl ⟨rfl,rfl⟩
end
def St.fL(S:St)(wr:Option (Nat×gp)):St:={S with H:=match wr with|some (id,o)=>bN S.H id o|none=>S.H}
def Good(P:Program)(E:En)(S:St)(a:Act)(w:World)(o:Oper)(x:PV)(wr:Option (Nat×gp)):Prop:=
 ∃nx w' L' v,(execOp a.eval o).run P w= .ok nx w'/\(nx= .value v\/(nx= .skip/\v=undef))/\bm w' (bu E (S.fL wr) L') ((S.fL wr).gh L') x v/\Rel E (S.fL wr) a w' L'
theorem Good.pure{o:Oper}{x:PV}{v:Value}(h:Rel E S a w L)(hr:(execOp a.eval o).run P w= .ok (.value v) w)(hx:bm w (bu E S L) (S.gh L) x v):Good P E S a w o x none:=
 ⟨_,w,L,v,hr,.inl rfl,hx,h⟩
theorem Rel.abF(h:Rel E S a w L){d:Option Nat}{x:PV}{v:Value}(hd:∀t,d=some t->E.can t)(hx:bm w (bu E S L) (S.gh L) x v):Rel E (S.c6 d x none) (a.put d v) w L:=by
 cases d with
 |none=>exact h
 |some t=>exact h.put (hd t rfl) hx
def Kj(o:Oper):Prop:=∀c,o.op≠ .defer c
theorem Good.wp{o:Oper}{x:PV}{wr:Option (Nat×gp)}(h:Good P E S a w o x wr)(hnd:Kj o)(hd:∀t,o.dst=some t->E.can t){K:Act->World->Prop}{Q:Exit->Act->World->Prop}
  (hK:∀a' w' L',Rel E (S.c6 o.dst x wr) a' w' L'->K a' w'):o.wpIn (WF E.rd) 0 P a w K Q:=by
 obtain⟨nx,w',L',v,hr,hn,hx,h'⟩:=h;have:=hK _ _ _ (show Rel E (S.c6 o.dst x wr) (a.put o.dst v) w' L' from h'.abF hd hx)
 unfold Oper.wpIn;rw[Oper.semAt_eq _ _ _ hnd,hr];rcases hn with rfl|⟨rfl,rfl⟩<;>exact⟨fun _ _=>trivial,this⟩
theorem Wh{t:TypeId}{ad:Addr}{v:Value}(ht:ur P t=some none)(h:w.cell? ad=some v):(loadVar t ad).run P w= .ok v w:=by
 unfold ur at ht;split at ht
 ·simp at ht
 ·simp at ht
 ·rename_i d _ hu hd
  have:(isAgg t).run P w= .ok false w:=by
   unfold isAgg;rw[Sem.run_bind,run_underlying hd w];cases d<;>simp_all
  simp only[loadVar,Sem.run_bind,this,Result.andThen_ok];simp[load,Sem.run,h]
 ·cases ht
theorem Wi{t:TypeId}{ad:Addr}{n:Nat}{vs:List Value}(ht:ur P t=some (some n))(hl:vs.length=n)(h:∀(i:Nat) (v:Value),vs[i]?=some v->w.cell? (ad.add i)=some v):
  (loadVar t ad).run P w= .ok (.agg vs.toArray) w:=by
 have hi:∃i,P.info? t=some i/\i.size=n:=by
  unfold ur at ht;split at ht
  ·simpa using ht
  ·simpa using ht
  ·simp at ht
  ·cases ht
 obtain⟨i,hi,hs⟩:=hi
 have:(isAgg t).run P w= .ok true w:=by
  unfold ur at ht;unfold isAgg;split at ht
  ·rename_i hu;rw[Sem.run_bind,run_underlying hu w];simp
  ·rename_i hu;rw[Sem.run_bind,run_underlying hu w];simp
  ·simp at ht
  ·cases ht
 have hl2:=run_loadCells_list (P:=P) w ad vs h;rw[hl]at hl2;simp only[loadVar,Sem.run_bind,this,Result.andThen_ok,sizeOf,typeInfo];simp[program,Sem.run,hi,hs,hl2]
theorem J4{M:Nat->Prop}{G:Gh}{t:TypeId}{n:Option Nat}{ad:Addr}{cs:List PV}{vs:List Value}{x:PV}(ht:ur P t=some n)(hr:bj w M G cs vs)
  (hc:∀(i:Nat) (v:Value),vs[i]?=some v->w.cell? (ad.add i)=some v) (hx:uC n cs=some x):∃v,(loadVar t ad).run P w= .ok v w/\bm w M G x v:=by
 cases n with
 |none=>
  cases cs with
  |nil=>simp[uC]at hx
  |cons y ys=>
   simp only[uC,Qf]at hx;subst hx;obtain⟨v,us,rfl,h1,_⟩:=hr.cons_inv;exact⟨v,Wh ht (by simpa[Addr.add]using hc 0 v (by simp)),h1⟩
 |some n=>
  simp only[uC]at hx;split at hx
  ·injection hx with hx
   subst hx;rename_i hn;refine⟨.agg (vs.take n).toArray,Wi ht (by simp[hr.1];omega) (fun i v hv=> ?_),?_⟩
   ·rw[Qq68]at hv;split at hv
    ·exact hc i v hv
    ·cases hv
   ·have:=hr.take n;exact .agg _ _ this.1 this.2
  ·cases hx
theorem Rel.tQ(h:Rel E S a w L){id:Nat}{cs:List PV}(hid:id<S.N)(hc:(S.H id).c= .box cs):
  ∃(b:Nat) (cur:Array Value) (T:TypeId),L id= .pointer (some ⟨b,0,none⟩)/\w.heap[b]?=some (.cells cur T (0,0))/\bj w (bu E S L) (S.gh L) cs cur.toList/\(E.rb=some b\/E.w0.heap.size<=b):=by
 have:=h.obj id hid;rw[hc]at this;obtain⟨b,cur,T,h1,h2,h3,h4⟩:=this;exact⟨b,cur,T,h1,h2,h4,h3⟩
theorem qW{b:Nat}{cur:Array Value}{T:TypeId}(h:w.heap[b]?=some (.cells cur T (0,0))){i:Nat}{v:Value}(hv:cur.toList[i]?=some v):w.cell? ⟨b,i,none⟩=some v:=by
 simp[World.cell?,h];simpa using hv
theorem Rel.k8(h:Rel E S a w L){id:Nat}{e k:Nat}{es:List (List PV)}(hid:id<S.N)(hc:(S.H id).c= .row e k es):
  ∃(vs:List Value),w.ownsRow (gH E (L id)) e k (L id) es.length vs/\(∀x∈es,x.length=k)/\bj w (bu E S L) (S.gh L) es.flatten vs:=by
 have:=h.obj id hid;rw[hc]at this;exact this
theorem zP{α:Type}:∀(es:List (List α)) (k i:Nat) (e:List α),(∀x∈es,x.length=k)->es[i]?=some e->∀j,j<k->es.flatten[i*k+j]?=e[j]?
 |[],_,_,_,_,h,_,_=>by simp at h
 |x::xs,k,i,e,hk,h,j,hj=>by
  have hx:x.length=k:=hk x (by simp)
  cases i with
  |zero=>
   simp at h;subst h;simp only[List.flatten_cons,Nat.zero_mul,Nat.zero_add];rw[List.getElem?_append_left (by omega)]
  |succ i=>
   simp only[List.getElem?_cons_succ]at h;have:=zP xs k i e (fun y hy=>hk y (by simp[hy])) h j hj
   simp only[List.flatten_cons];have e1:(i+1)*k=i*k+k:=by rw[Qq73];omega
   rw[List.getElem?_append_right (by omega),<-this]
   congr 1;omega
theorem rL{α:Type}(es:List (List α))(k:Nat)(hk:∀x∈es,x.length=k):es.flatten.length=es.length*k:=by
 induction es with
 |nil=>simp
 |cons x xs ih=>
  have hx:x.length=k:=hk x (by simp)
  have:=ih (fun y hy=>hk y (by simp[hy]))
  simp only[List.flatten_cons,QB,QE,hx,this,Qq73];omega
end
end
section
open Go.RowKit
section
variable {P : Program} {E : En} {S : St} {a : Act} {w : World} {L : Nat -> Value} {o : Oper} {x : PV} {wr : Option (Nat × gp)} {Γ : pM} {nid : Nat}
theorem bQ{p q:PV×Option (Nat×gp)}(h:some p=some q):p.1=q.1/\p.2=q.2:=by injection h with h;subst h;exact⟨rfl,rfl⟩
theorem ade(h:Rel E S a w L){y:Operand}{y':bq}(ho:o.op= .move y\/o.op= .assign y)(hy:bB y=some y'):Good P E S a w o (y'.val S) none:=by
 refine Good.pure h ?_ (h.iO hy);rcases ho with ho|ho<;>simp[execOp,ho]
theorem agp(h:Rel E S a w L){c y z:Operand}{c' y' z':bq}(ho:o.op= .pick c y z)(hc:bB c=some c')(hy:bB y=some y')(hz:bB z=some z')
  (he:exec Γ nid S (.pick c' y' z')=some (x,wr)):Good P E S a w o x wr:=by
 have rc:=h.iO hc;simp only[exec]at he;split at he
 ·rename_i e;obtain⟨rfl,rfl⟩:=bQ he;rw[e]at rc;have hv:=rc.og;exact Good.pure (v:=a.eval y) h (by simp[execOp,ho,asBool,hv]) (h.iO hy)
 ·rename_i e;obtain⟨rfl,rfl⟩:=bQ he;rw[e]at rc;have hv:=rc.og;exact Good.pure (v:=a.eval z) h (by simp[execOp,ho,asBool,hv]) (h.iO hz)
 ·cases he
theorem ahE(h:Rel E S a w L){y:Operand}{y':bq}{t:TypeId}(ho:o.op= .unOp .not t y)(hy:bB y=some y')(he:exec Γ nid S (.not y')=some (x,wr)):Good P E S a w o x wr:=by
 have r:=h.iO hy;simp only[exec]at he;split at he
 ·rename_i b e;obtain⟨rfl,rfl⟩:=bQ he;rw[e]at r;have hv:=r.og;exact Good.pure (v:= .bool !b) h (by simp[execOp,ho,Op.unary,hv]) (.bool _)
 ·cases he
theorem agt(h:Rel E S a w L){y:Operand}{y':bq}{s t:TypeId}{k k0:IntKind}(ho:o.op= .convert s t y)(hs:P.underlying s=some (.int k0))(ht:P.underlying t=some (.int k))(hy:bB y=some y')
  (he:exec Γ nid S (.conv k y')=some (x,wr)):Good P E S a w o x wr:=by
 have r:=h.iO hy;simp only[exec]at he;split at he
 ·rename_i k1 n e;obtain⟨rfl,rfl⟩:=bQ he;rw[e]at r;have hv:=r.fU;exact Good.pure (v:= .int k (k.wrap n)) h (by simp[execOp,ho,convert,run_underlying hs,run_underlying ht,Conv.intToInt,hv]) (.int _ _)
 ·cases he
theorem ags(h:Rel E S a w L){y:Operand}{y':bq}{i:Nat}(ho:o.op= .extract y i)(hy:bB y=some y')(he:exec Γ nid S (.E5 i y')=some (x,wr)):Good P E S a w o x wr:=by
 have r:=h.iO hy;simp only[exec]at he;split at he
 ·rename_i cs e;simp only[Qb]at he;obtain⟨z,hz,he⟩:=he;injection he with h1 h2
  subst h1 h2;rw[e]at r;obtain⟨vs,hv,hr⟩:=r.Fi;obtain⟨u,hu,hx⟩:=hr.get hz;exact Good.pure (v:=u) h (by simp[execOp,ho,Instr.extract,hv,hu]) hx
 ·cases he
theorem ahG(h:Rel E S a w L){f:FuncId}{first caps:Array Operand}{cs:List bq}(ho:o.op= .makeFunc (.func f) first caps)(h0:first.size=0)(hc:caps.toList.mapM bB=some cs)
  (he:exec Γ nid S (.K7 f cs)=some (x,wr)):Good P E S a w o x wr:=by
 simp only[exec]at he;obtain⟨rfl,rfl⟩:=bQ he;have r:=h.dm hc;have h1:first=#[]:=Array.eq_empty_of_size_eq_zero h0
 subst h1;refine Good.pure (v:= .func (.func f) #[] (caps.toList.map a.eval).toArray) h ?_ (.bG f _ _ r.1 r.2);have e:caps.map a.eval=(caps.toList.map a.eval).toArray:=by rw[<-Array.toList_map,Array.toArray_toList]
 simp[execOp,ho,Instr.makeFunc,e]
theorem ahH(h:Rel E S a w L){f:FuncId}{first caps:Array Operand}{cs:List bq}(ho:o.op= .makeFunc (.func f) first caps)(h0:caps.size=0)(hc:first.toList.mapM bB=some cs)
  (he:exec Γ nid S (.K8 f cs)=some (x,wr)):Good P E S a w o x wr:=by
 simp only[exec]at he;obtain⟨rfl,rfl⟩:=bQ he;have r:=h.dm hc;have h1:caps=#[]:=Array.eq_empty_of_size_eq_zero h0;subst h1;refine Good.pure (v:= .func (.func f) (first.toList.map a.eval).toArray #[]) h ?_ (.jN f _ _ r.1 r.2)
 have e:first.map a.eval=(first.toList.map a.eval).toArray:=by rw[<-Array.toList_map,Array.toArray_toList]
 simp[execOp,ho,Instr.makeFunc,e]
theorem toList_eq_iff(a b:ByteArray):(a.toList==b.toList)=decide (a=b):=by
 have hl:∀c:ByteArray,c.toList=c.data.toList:=fun c=>Lib.toList_data c
 rw[hl,hl,QW];simp only[beq_iff_eq,Qi];constructor
 ·intro h;have:a.data=b.data:=Array.toList_inj.1 h;cases a;cases b;simp_all
 ·rintro rfl;rfl
theorem XW{M:Nat->Prop}{G:Gh}{op:BinOp}{t:TypeId}{k:IntKind}{p q:Int}{r:PV}(hb:Jv op k p q=some r)(hs1:op≠ .shl)(hs2:op≠ .shr):
  ∃v,(binOp op t (.int k p) (.int k q)).run P w= .ok v w/\bm w M G r v:=by
 cases op<;>simp only[Jv]at hb
 case shl=>exact absurd rfl hs1
 case shr=>exact absurd rfl hs2
 case quo=>
  split at hb
  ·cases hb
  ·rename_i hq;injection hb with hb;subst hb;exact⟨.int k (k.wrap (p.tdiv q)),by simp[binOp,Op.intDiv,hq],.int _ _⟩
 case rem=>
  split at hb
  ·cases hb
  ·rename_i hq;injection hb with hb;subst hb;exact⟨.int k (p.tmod q),by simp[binOp,Op.intDiv,hq],.int _ _⟩
 case andNot=>injection hb with hb;subst hb;exact⟨.int k (k.wrap ((BitVec.ofInt k.bits p&&& ~~~ BitVec.ofInt k.bits q).toNat)),by simp only[binOp,ne_eq,not_true_eq_false,Qu,Op.intBits,Sem.run_pure],.int _ _⟩
 case and=>injection hb with hb;subst hb;exact⟨_,by simp only[binOp,ne_eq,not_true_eq_false,Qu,Op.intBits];rfl,.int _ _⟩
 case or=>injection hb with hb;subst hb;exact⟨_,by simp only[binOp,ne_eq,not_true_eq_false,Qu,Op.intBits];rfl,.int _ _⟩
 case xor=>injection hb with hb;subst hb;exact⟨_,by simp only[binOp,ne_eq,not_true_eq_false,Qu,Op.intBits];rfl,.int _ _⟩
 all_goals (injection hb with hb;subst hb)
 all_goals exact⟨_,by simp only[binOp,ne_eq,not_true_eq_false,Qu,Op.intArith,Op.intCmp];rfl,by first|exact .int _ _|exact .bool _⟩
theorem ahL(h:Rel E S a w L){y z:Operand}{y' z':bq}{op:BinOp}{t t2:TypeId}(ho:o.op= .binOp op t y z t2)(hy:bB y=some y')(hz:bB z=some z')
  (he:exec Γ nid S (.bin op y' z')=some (x,wr)):Good P E S a w o x wr:=by
 have ry:=h.iO hy;have rz:=h.iO hz;simp only[exec,Qb]at he;obtain⟨r,hb,he⟩:=he;injection he with h1 h2
 subst h1 h2;unfold Kf at hb;split at hb
 ·rename_i k p k' q e1 e2;rw[e1]at ry;rw[e2]at rz;have hv:=ry.fU;have hu:=rz.fU;have hg:∀op,(eqGuard op t y z (.int k p) (.int k' q)).run P w= .ok () w:=by intro op;cases op<;>simp[eqGuard]
  split at hb
  ·split at hb
   ·cases hb
   ·rename_i hq;injection hb with hb
    subst hb;exact Good.pure (v:=_) h (by simp[execOp,ho,hv,hu,hg,binOp,Op.shift,hq]) (.int _ _)
  ·split at hb
   ·cases hb
   ·rename_i hq;injection hb with hb
    subst hb;exact Good.pure (v:=_) h (by simp[execOp,ho,hv,hu,hg,binOp,Op.shift,hq]) (.int _ _)
  ·rename_i hs1 hs2;split at hb
   ·rename_i hk;subst hk;obtain⟨v,hrun,hx⟩:=XW (P:=P) (w:=w) (t:=t) (M:=bu E S L) (G:=S.gh L) hb hs1 hs2;exact Good.pure (v:=v) h (by simp[execOp,ho,hv,hu,hg,hrun]) hx
   ·cases hb
 ·rename_i p q e1 e2;rw[e1]at ry;rw[e2]at rz;have hv:=ry.yH;have hu:=rz.yH;have hg:∀op,(eqGuard op t y z (.string p) (.string q)).run P w= .ok () w:=by intro op;cases op<;>simp[eqGuard]
  cases op<;>simp only[OP]at hb<;>
   first
   |(injection hb with hb;subst hb;exact Good.pure (v:=_) h (by first|(simp only[execOp,ho,hv,hu,Sem.run_bind,hg,binOp,Op.stringOp,toList_eq_iff,Sem.run_pure,Result.andThen_ok];done)|(simp only[execOp,ho,hv,hu,Sem.run_bind,hg,binOp,Op.stringOp,toList_eq_iff,Sem.run_pure,Result.andThen_ok];rfl)) (.bool _))
   |cases hb
 ·cases hb
end
end
section
open Go.RowKit
section
variable {P : Program} {E : En} {S : St} {a : Act} {w : World} {L : Nat -> Value} {o : Oper} {x : PV} {wr : Option (Nat × gp)} {Γ : pM} {nid : Nat}
theorem run_load{t:TypeId}{y:Operand}{ad:Addr}{v:Value}(ho:o.op= .load t y)(hv:a.eval y= .pointer (some ad))(hr:(loadVar t ad).run P w= .ok v w):(execOp a.eval o).run P w= .ok (.value v) w:=by
 simp[execOp,ho,hv,Instr.loadAt,Instr.sureAddr,hr]
theorem add_mid(b o j:Nat):(⟨b,o,none⟩:Addr).add j=⟨b,o+j,none⟩:=Addr.add_mid b o j
theorem ig{α:Type}{l:List α}{n i:Nat}{v:α}(h:(l.drop n)[i]?=some v):l[n+i]?=some v:=by rwa [List.getElem?_drop]at h
theorem agq(h:Rel E S a w L){y:Operand}{y':bq}{t:TypeId}{n:Option Nat}(ho:o.op= .load t y)(ht:ur P t=some n)(hy:bB y=some y')(he:exec Γ nid S (.load n y')=some (x,wr)):Good P E S a w o x wr:=by
 have r:=h.iO hy;simp only[exec]at he;split at he
 ·rename_i id av off e;rw[e]at r;split at he
  ·rename_i hver;split at he
   ·rename_i cs hc;simp only[Qb]at he;obtain⟨z,hz,he⟩:=he;injection he with h1 h2
    subst h1 h2;obtain⟨hN,hv⟩:=r.ud (show(S.gh L).V id=av from hver)
    obtain⟨b,cur,T,hL,hh,hr,_⟩:=h.tQ hN hc;rw[show(S.gh L).L id=L id from rfl,hL]at hv
    simp only[cp,Qe]at hv;obtain⟨v,hrun,hx⟩:=J4 (P:=P) (ad:=⟨b,off,none⟩) ht (hr.drop off) (fun i u hu=>by rw[add_mid];exact qW hh (ig hu)) hz
    exact Good.pure h (run_load ho hv hrun) hx
   ·cases he
  ·cases he
 ·rename_i id av k i off e;rw[e]at r;split at he
  ·rename_i hver;split at he
   ·rename_i e0 k' es hc;split at he
    ·rename_i hk;subst hk;split at he
     ·rename_i el hel;simp only[Qb]at he;obtain⟨z,hz,he⟩:=he;injection he with h1 h2
      subst h1 h2;obtain⟨hN,hv⟩:=r.Mz (show(S.gh L).V id=av from hver)
      obtain⟨vs,hown,hk,hr⟩:=h.k8 hN hc;rw[show(S.gh L).L id=L id from rfl]at hv
      have hlen:el.length=k:=hk el (Q8 hel)
      have hsub:bj w (bu E S L) (S.gh L) el ((vs.drop (i*k)).take k):=by
       have h1:=(hr.drop (i*k)).take k
       have h2:(es.flatten.drop (i*k)).take k=el:=by
        apply List.ext_getElem?;intro j;rw[Qq68];split
        ·rename_i hj;rw[List.getElem?_drop,zP es k i el hk hel j hj]
        ·rw[Qq72 (by omega)]
       rw[h2]at h1;exact h1
      rcases hown.2 with⟨hL,h0⟩|⟨g,cap,cur,hL,hb1,hh,_,_,_,htake⟩
      ·have:es=[]:=Qq67 h0;subst this;simp at hel
      ·rw[hL]at hv;simp only[cp,Qe]at hv
       obtain⟨v,hrun,hx⟩:=J4 (P:=P) (ad:=⟨g,i*k+off,none⟩) ht (hsub.drop off) (fun j u hu=>by
        rw[add_mid];refine qW hh ?_;have h1:=ig hu;rw[Qq68]at h1;split at h1
        ·rw[List.getElem?_drop,<-htake,Qq68]at h1;split at h1
         ·rw[<-h1];congr 1;omega
         ·cases h1
        ·cases h1) hz
       exact Good.pure h (run_load ho hv hrun) hx
     ·cases he
    ·cases he
   ·cases he
  ·cases he
 ·rename_i cs e;rw[e]at r;simp only[Qb]at he;obtain⟨z,hz,he⟩:=he;injection he with h1 h2
  subst h1 h2;obtain⟨ad,vs,hv,hr,hc⟩:=r.JU;obtain⟨v,hrun,hx⟩:=J4 (P:=P) (ad:=ad) ht hr (fun i u hu=>(hc i u hu).1) hz
  exact Good.pure h (run_load ho hv hrun) (hx.mono (dW.of fun _ hm=>hm) (dw.le _))
 ·cases he
theorem add_add(ad:Addr)(i j:Nat):(ad.add i).add j=ad.add (i+j):=by
 unfold Addr.add
 by_cases hi:i=0<;>by_cases hj:j=0<;>simp[hi,hj,Nat.add_assoc]
theorem TS{M:Nat->Prop}{G:Gh}{cs:List PV}{ad:Addr}{vs:List Value}(hr:bj w M dw cs vs)(hc:∀(i:Nat) (u:Value),vs[i]?=some u->w.cell? (ad.add i)=some u/\¬M ad.block)(n:Nat):
  bm w M G (.ref (cs.drop n)) (.pointer (some (ad.add n))):=by
 have h1:=hr.drop n;exact .ref _ _ _ h1.1 (fun i u hu=>by rw[add_add,Ju];exact hc _ u (ig hu)) h1.2
theorem Pg{fd:Field}{i:TypeInfo}(hi:P.info? fd.type=some i)(h0:i.size≠0)(ad:Addr):(fieldPlace ad fd).run P w= .ok (ad.add fd.offset) w:=by
 simp[fieldPlace,sizeOf,typeInfo,hi,h0]
theorem Ip{s:TypeId}{y:Operand}{f:Nat}{fields:Array Field}{fd:Field}{i:TypeInfo}{ad:Addr}(ho:o.op= .fieldAddr s y f)(hs:P.underlying s=some (.struct fields))(hf:fields[f]?=some fd)
  (hi:P.info? fd.type=some i) (h0:i.size≠0) (hv:a.eval y= .pointer (some ad)):(execOp a.eval o).run P w= .ok (.value (.pointer (some (ad.add fd.offset)))) w:=by
 simp[execOp,ho,Instr.fieldAt,run_underlying hs,hf,hv,Instr.sureAddr,Pg hi h0]
theorem bm.RE{M:Nat->Prop}{G:Gh}{id av off:Nat}{ad:Addr}(n:Nat)(h:bm w M G (.ptr id av off) (.pointer (some ad))):bm w M G (.ptr id av (off+n)) (.pointer (some (ad.add n))):=by
 cases h with
 |ptr _ _ _ _ hN hV h=>
  refine .ptr _ _ _ _ hN hV (fun e=> ?_)
  have:=h e
  cases hb:cp (G.L id)with
  |none=>rw[hb]at this;cases this
  |some b=>
   rw[hb]at this;simp only[Qe,Qf]at this ⊢;rw[this,add_mid]
theorem bm.YK{M:Nat->Prop}{G:Gh}{id av k i off:Nat}{ad:Addr}(n:Nat)(h:bm w M G (.fg id av k i off) (.pointer (some ad))):bm w M G (.fg id av k i (off+n)) (.pointer (some (ad.add n))):=by
 cases h with
 |fg _ _ _ _ _ _ hN hV h=>
  refine .fg _ _ _ _ _ _ hN hV (fun e=> ?_)
  have:=h e
  cases hb:cp (G.L id)with
  |none=>rw[hb]at this;cases this
  |some b=>
   rw[hb]at this;simp only[Qe,Qf]at this ⊢;rw[this,add_mid,Nat.add_assoc]
theorem Rel.uU(h:Rel E S a w L){id av off:Nat}{v:Value}{cs:List PV}(r:bm w (bu E S L) (S.gh L) (.ptr id av off) v)(hver:(S.H id).av=av)(hc:(S.H id).c= .box cs):
  ∃b,v= .pointer (some ⟨b,off,none⟩)/\L id= .pointer (some ⟨b,0,none⟩):=by
 obtain⟨hN,hv⟩:=r.ud (show(S.gh L).V id=av from hver)
 obtain⟨b,cur,T,hL,hh,hr,_⟩:=h.tQ hN hc;rw[show(S.gh L).L id=L id from rfl,hL]at hv
 exact⟨b,hv,hL⟩
theorem Rel.aaz(h:Rel E S a w L){id av k i off:Nat}{v:Value}{e0 k':Nat}{es:List (List PV)}(r:bm w (bu E S L) (S.gh L) (.fg id av k i off) v)(hver:(S.H id).av=av)(hc:(S.H id).c= .row e0 k' es)(hi:i<es.length):
  ∃b n cap,v= .pointer (some ⟨b,i*k+off,none⟩)/\L id= .slice (some ⟨b,0,none⟩) n cap:=by
 obtain⟨hN,hv⟩:=r.Mz (show(S.gh L).V id=av from hver)
 obtain⟨vs,hown,hk,hr⟩:=h.k8 hN hc;rcases hown.2 with⟨hL,h0⟩|⟨g,cap,cur,hL,hb1,hh,_⟩
 ·omega
 ·rw[show(S.gh L).L id=L id from rfl,hL]at hv
  exact⟨g,_,cap,hv,hL⟩
theorem aeJ(h:Rel E S a w L){s:TypeId}{y:Operand}{y':bq}{f:Nat}{fields:Array Field}{fd:Field}{i:TypeInfo}(ho:o.op= .fieldAddr s y f)(hs:P.underlying s=some (.struct fields))(hf:fields[f]?=some fd)
  (hi:P.info? fd.type=some i) (h0:i.size≠0) (hy:bB y=some y') (he:exec Γ nid S (.Bn fd.offset y')=some (x,wr)):Good P E S a w o x wr:=by
 have r:=h.iO hy;simp only[exec]at he;split at he
 ·rename_i id av off e;rw[e]at r;split at he
  ·rename_i hver;split at he
   ·rename_i cs hc;obtain⟨rfl,rfl⟩:=bQ he;obtain⟨b,hv,_⟩:=h.uU r hver hc;rw[hv]at r;exact Good.pure h (Ip ho hs hf hi h0 hv) (r.RE _)
   ·cases he
  ·cases he
 ·rename_i id av k j off e;rw[e]at r;split at he
  ·rename_i hver;split at he
   ·rename_i hc;split at he
    ·rename_i hj;obtain⟨rfl,rfl⟩:=bQ he;obtain⟨b,n,cap,hv,_⟩:=h.aaz r hver hc hj;rw[hv]at r;exact Good.pure h (Ip ho hs hf hi h0 hv) (r.YK _)
    ·cases he
   ·cases he
  ·cases he
 ·rename_i cs e;rw[e]at r;obtain⟨rfl,rfl⟩:=bQ he;obtain⟨ad,vs,hv,hr,hc⟩:=r.JU;exact Good.pure h (Ip ho hs hf hi h0 hv) (TS hr hc _)
 ·cases he
theorem aeH(h:Rel E S a w L){y:Operand}{y':bq}(ho:o.op= .nilCheck y)(hy:bB y=some y')(he:exec Γ nid S (.Bg y')=some (x,wr)):Good P E S a w o x wr:=by
 have r:=h.iO hy;simp only[exec]at he;split at he
 ·rename_i id av off e;rw[e]at r;split at he
  ·rename_i hver;split at he
   ·rename_i cs hc;obtain⟨rfl,rfl⟩:=bQ he;obtain⟨b,hv,_⟩:=h.uU r hver hc;exact Good.pure (v:=a.eval y) h (by simp[execOp,ho,hv]) r
   ·cases he
  ·cases he
 ·rename_i cs e;rw[e]at r;obtain⟨rfl,rfl⟩:=bQ he;obtain⟨ad,vs,hv,hr,hc⟩:=r.JU;exact Good.pure (v:=a.eval y) h (by simp[execOp,ho,hv]) r
 ·rename_i f cs e;rw[e]at r;obtain⟨rfl,rfl⟩:=bQ he;obtain⟨vs,hv,hr⟩:=r.yP;exact Good.pure (v:=a.eval y) h (by simp[execOp,ho,hv]) r
 ·cases he
theorem Rel.JI(h:Rel E S a w L){id k lo n:Nat}{ad:Option Addr}{c:Nat}{e0 k':Nat}{es:List (List PV)}(hN:id<S.N)(hc:(S.H id).c= .row e0 k' es)(hat:VI (L id) k lo n ad c):lo+n<=es.length:=by
 obtain⟨a0,m0,c0,hl,h1,_⟩:=hat;obtain⟨vs,hown,hk,hr⟩:=h.k8 hN hc;rcases hown.2 with⟨hL,h0⟩|⟨g,cap,cur,hL,_⟩
 ·rw[hL]at hl;injection hl with e1 e2 e3;omega
 ·rw[hL]at hl;injection hl with e1 e2 e3;omega
theorem Io{t e:TypeId}{y z:Operand}{ad:Addr}{n c:Nat}{i:TypeInfo}{k:IntKind}{j:Int}(ho:o.op= .indexAddr t y z)(ht:P.underlying t=some (.slice e))(hi:P.info? e=some i)
  (hv:a.eval y= .slice (some ad) n c) (hz:a.eval z= .int k j) (h0:0<=j) (h1:j<n):(execOp a.eval o).run P w= .ok (.value (.pointer (some (ad.add (j.toNat*i.size))))) w:=by
 simp[execOp,ho,Instr.indexAt,run_underlying ht,hv,hz,asIntOf,sizeOf,typeInfo,hi,h0,h1]
theorem aeI(h:Rel E S a w L){t e:TypeId}{y z:Operand}{y' z':bq}{i:TypeInfo}(ho:o.op= .indexAddr t y z)(ht:P.underlying t=some (.slice e))(hi:P.info? e=some i)(hy:bB y=some y')(hz:bB z=some z')
  (he:exec Γ nid S (.tf i.size y' z')=some (x,wr)):Good P E S a w o x wr:=by
 have r:=h.iO hy;have rz:=h.iO hz;simp only[exec]at he;split at he
 ·rename_i kk j ej;rw[ej]at rz;have hj:=rz.fU;split at he
  ·rename_i es ee;rw[ee]at r;split at he
   ·rename_i hb;split at he
    ·rename_i el hel;split at he
     ·rename_i hlen;obtain⟨rfl,rfl⟩:=bQ he;rcases r.Fq with⟨_,h0⟩|⟨ad,c,k,vs,hv,hk,hr,hc,_,_⟩
      ·subst h0;simp at hel
      ·have hk':k=i.size:=(hk el (Q8 hel)).symm.trans hlen;subst hk';refine Good.pure h (Io ho ht hi hv hj hb.1 hb.2) ?_
       have h2:(es.flatten.drop (j.toNat*i.size)).take i.size=el:=by
        apply List.ext_getElem?;intro q;rw[Qq68];split
        ·rename_i hq;rw[List.getElem?_drop,zP es i.size j.toNat el hk hel q hq]
        ·rw[Qq72 (by omega)]
       have h1:=(hr.drop (j.toNat*i.size)).take i.size;rw[h2]at h1;refine .ref _ _ _ h1.1 (fun q u hu=> ?_) h1.2
       rw[Qq68]at hu;split at hu
       ·rw[add_add,Ju];exact hc _ u (ig hu)
       ·cases hu
     ·cases he
    ·cases he
   ·cases he
  ·rename_i id av ee;rw[ee]at r;split at he
   ·rename_i hver;split at he
    ·rename_i e0 k' es hc;split at he
     ·rename_i hb;obtain⟨rfl,rfl⟩:=bQ he;obtain⟨hN,hv⟩:=r.nN (show(S.gh L).V id=av from hver)
      obtain⟨vs,hown,hk,hr⟩:=h.k8 hN hc;rcases hown.2 with⟨hL,h0⟩|⟨g,cap,cur,hL,hb1,hh,_⟩
      ·omega
      ·rw[show(S.gh L).L id=L id from rfl,hL]at hv
       refine Good.pure h (Io ho ht hi hv hj hb.2.1 hb.2.2) ?_;refine .fg _ _ _ _ _ _ hN (Nat.le_of_eq hver.symm) (fun _=> ?_)
       rw[show(S.gh L).L id=L id from rfl,hL]
       simp[cp,add_mid]
     ·cases he
    ·cases he
   ·cases he
  ·rename_i id av k0 lo m ee;rw[ee]at r;split at he
   ·rename_i hver;split at he
    ·rename_i e0 k' es hc;split at he
     ·rename_i hb;obtain⟨hk1,hk0,hb0,hb1,hb2⟩:=hb;subst hk0;obtain⟨rfl,rfl⟩:=bQ he;obtain⟨hN,ad,c,hv,a0,m0,c0,hl,h1,h2,h3,h4⟩:=r.As (show(S.gh L).V id=av from hver)
      obtain⟨vs,hown,hk,hr⟩:=h.k8 hN hc;have hl:L id= .slice a0 m0 c0:=hl;rcases hown.2 with⟨hL,h0⟩|⟨g,cap,cur,hL,hb1',hh,_⟩
      ·omega
      ·rw[hL]at hl;injection hl with e1 e2 e3
       subst e1 e2 e3;rcases h4 with h4|h4
       ·omega
       ·subst h4;refine Good.pure h (Io ho ht hi hv hj hb0 hb1) ?_;refine .fg _ _ _ _ _ _ hN (Nat.le_of_eq hver.symm) (fun _=> ?_)
        rw[show(S.gh L).L id=L id from rfl,hL]
        simp[cp,add_mid,Qq73]
     ·cases he
    ·cases he
   ·cases he
  ·cases he
 ·cases he
theorem Rx{t e:TypeId}{y z:Operand}{ad:Addr}{n:Nat}{i:TypeInfo}{k:IntKind}{j:Int}(ho:o.op= .indexAddr t y z)(ht:P.underlying t=some (.array n e))(hi:P.info? e=some i)
  (hv:a.eval y= .pointer (some ad)) (hz:a.eval z= .int k j) (h0:0<=j) (h1:j<n):(execOp a.eval o).run P w= .ok (.value (.pointer (some (ad.add (j.toNat*i.size))))) w:=by
 simp[execOp,ho,Instr.indexAt,Instr.sureAddr,run_underlying ht,hv,hz,asIntOf,sizeOf,typeInfo,hi,h0,h1]
theorem aeM(h:Rel E S a w L){t e:TypeId}{n:Nat}{y z:Operand}{y' z':bq}{i:TypeInfo}(ho:o.op= .indexAddr t y z)(ht:P.underlying t=some (.array n e))(hi:P.info? e=some i)(hy:bB y=some y')(hz:bB z=some z')
  (he:exec Γ nid S (.Br i.size n y' z')=some (x,wr)):Good P E S a w o x wr:=by
 have r:=h.iO hy;have rz:=h.iO hz;simp only[exec]at he;split at he
 ·rename_i kk j ej;rw[ej]at rz;have hj:=rz.fU;split at he
  ·rename_i hb;split at he
   ·rename_i id av off e;rw[e]at r;split at he
    ·rename_i hver;split at he
     ·rename_i cs hc;obtain⟨rfl,rfl⟩:=bQ he;obtain⟨b,hv,_⟩:=h.uU r hver hc;rw[hv]at r;exact Good.pure h (Rx ho ht hi hv hj hb.1 hb.2) (r.RE _)
     ·cases he
    ·cases he
   ·rename_i cs e;rw[e]at r;obtain⟨rfl,rfl⟩:=bQ he;obtain⟨ad,vs,hv,hr,hc⟩:=r.JU;exact Good.pure h (Rx ho ht hi hv hj hb.1 hb.2) (TS hr hc _)
   ·cases he
  ·cases he
 ·cases he
theorem ago(h:Rel E S a w L){t:TypeId}{y z:Operand}{y' z':bq}(ho:o.op= .index t y z)(ht:P.underlying t=some .string)(hy:bB y=some y')(hz:bB z=some z')
  (he:exec Γ nid S (.za y' z')=some (x,wr)):Good P E S a w o x wr:=by
 have ry:=h.iO hy;have rz:=h.iO hz;simp only[exec]at he;split at he
 ·rename_i s kk n e1 e2;rw[e1]at ry;rw[e2]at rz;have hv:=ry.yH;have hj:=rz.fU;simp only[Qb]at he;obtain⟨b,hb,he⟩:=he;injection he with h1 h2
  subst h1 h2;unfold za at hb;split at hb
  ·rename_i h0;simp only[Qb]at hb;obtain⟨c,hc,rfl⟩:=hb;exact Good.pure h (by simp[execOp,ho,Instr.index,run_underlying ht,hv,hj,asIntOf,h0,hc]) (.int _ _)
  ·cases hb
 ·cases he
theorem WT{M:Nat->Prop}{G:Gh}{t:TypeId}{n:Option Nat}{cs':List PV}{vs:List Value}{off:Nat}{x:PV}(ht:ur P t=some n)(hrd:bj w M G cs' (vs.drop off))(hx:uC n cs'=some x):∃v,(part t vs.toArray off).run P w= .ok v w/\bm w M G x v:=by
 cases n with
 |none=>
  cases hcs:cs' with
  |nil=>rw[hcs]at hx;simp[uC]at hx
  |cons y ys=>
   rw[hcs]at hx hrd;simp only[uC,Qf]at hx;subst hx;obtain⟨v,us,hus,h1,_⟩:=hrd.cons_inv;refine⟨v,?_,h1⟩
   have hv:vs[off]?=some v:=by
    have:(vs.drop off)[0]?=some v:=by rw[hus];rfl
    simpa[List.getElem?_drop]using this
   have hag:(isAgg t).run P w= .ok false w:=by
    unfold ur at ht;split at ht
    ·simp at ht
    ·simp at ht
    ·rename_i d _ hu hd;unfold isAgg;rw[Sem.run_bind,run_underlying hd w];cases d<;>simp_all
    ·cases ht
   simp[part,hag,hv]
 |some m=>
  simp only[uC]at hx;split at hx
  ·rename_i hm;injection hx with hx
   subst hx
   have hi:∃i,P.info? t=some i/\i.size=m:=by
    unfold ur at ht;split at ht
    ·simpa using ht
    ·simpa using ht
    ·simp at ht
    ·cases ht
   obtain⟨i,hi,hs⟩:=hi
   have hag:(isAgg t).run P w= .ok true w:=by
    unfold ur at ht;unfold isAgg;split at ht
    ·rename_i hu;rw[Sem.run_bind,run_underlying hu w];simp
    ·rename_i hu;rw[Sem.run_bind,run_underlying hu w];simp
    ·simp at ht
    ·cases ht
   have h3:=hrd.take m;refine⟨.agg ((vs.drop off).take m).toArray,?_,.agg _ _ h3.1 h3.2⟩;simp only[part,Sem.run_bind,hag,Result.andThen_ok,sizeOf,typeInfo];simp[program,Sem.run,hi,hs]
  ·cases hx
theorem ad2{M:Nat->Prop}{G:Gh}{t:TypeId}{n:Option Nat}{cs:List PV}{vs:List Value}{off:Nat}{x:PV}(ht:ur P t=some n)(hr:bj w M G cs vs)(hx:uC n ((cs.drop off).map nz)=some x):∃v,(part t vs.toArray off).run P w= .ok v w/\bm w M G x v:=by
 have hrd:bj w M G ((cs.drop off).map nz) (vs.drop off):=⟨by simp[hr.1],fun i y v hy hv=>by
  rw[QT,Qb]at hy;obtain⟨y0,hy0,rfl⟩:=hy;have h0:=(hr.drop off).2 i y0 v hy0 hv
  cases h0 with
  |et=>exact .slnil
  |any=>exact .any _
  |undef=>exact .undef
  |int k n=>exact .int k n
  |bool b=>exact .bool b
  |gS b=>exact .gS b
  |str s=>exact .str s
  |lz=>exact .lz
  |bG f caps us hl h=>exact .bG f caps us hl h
  |jN f caps us hl h=>exact .jN f caps us hl h
  |agg cs us hl h=>exact .agg cs us hl h
  |eo cs us hl h=>exact .eo cs us hl h
  |ptr id av off a hN hV h=>exact .ptr id av off a hN hV h
  |ref cs a us hl hc h=>exact .ref cs a us hl hc h
  |sl es a c k us hk hl hc h hn hm=>exact .sl es a c k us hk hl hc h hn hm
  |slnil=>exact .slnil
  |own id av a n c hN hV h=>exact .own id av a n c hN hV h
  |fg id av k i off a hN hV h=>exact .fg id av k i off a hN hV h
  |view id av k lo n a c hN hV h=>exact .view id av k lo n a c hN hV h
  |jc ks us b es ck hb hMb hk hl h1 h2=>exact .jc ks us b es ck hb hMb hk hl h1 h2⟩
 exact WT ht hrd hx
theorem ahJ(h:Rel E S a w L){t:TypeId}{fs:Array Field}{f:Field}{n:Option Nat}{i:Nat}{y:Operand}{y':bq}(ho:o.op= .field t y i)(ht:P.underlying t=some (.struct fs))(hf:fs[i]?=some f)(hn:ur P f.type=some n)(hy:bB y=some y')
  (he:exec Γ nid S (.Lf n f.offset y')=some (x,wr)):Good P E S a w o x wr:=by
 have ry:=h.iO hy;simp only[exec]at he;split at he
 ·rename_i cs e1;rw[e1]at ry;obtain⟨vs,hv,hr⟩:=ry.pd;simp only[Qb]at he;obtain⟨b,hb,he⟩:=he;injection he with h1 h2
  subst h1 h2;obtain⟨v,hp,hrv⟩:=WT (w:=w) hn (hr.drop f.offset) hb;refine Good.pure h (v:=v) ?_ hrv;simp[execOp,ho,Instr.field,run_underlying ht,hv,hf,asAgg,hp]
 ·cases he
theorem agv(h:Rel E S a w L){t e:TypeId}{n:Option Nat}{len:Nat}{i:TypeInfo}{y z:Operand}{y' z':bq}(ho:o.op= .index t y z)(ht:P.underlying t=some (.array len e))(hn:ur P e=some n)(hi:P.info? e=some i)(hy:bB y=some y')(hz:bB z=some z')
  (he:exec Γ nid S (.Fe e n len i.size y' z')=some (x,wr)):Good P E S a w o x wr:=by
 have ry:=h.iO hy;have rz:=h.iO hz;simp only[exec]at he;split at he
 ·rename_i cs kk j e1 e2;rw[e1]at ry;rw[e2]at rz;obtain⟨vs,hv,hr⟩:=ry.pd;have hj:=rz.fU;split at he
  ·rename_i h0;simp only[Qb]at he;obtain⟨b,hb,he⟩:=he;injection he with h1 h2
   subst h1 h2;obtain⟨v,hp,hrv⟩:=ad2 (w:=w) hn hr hb;refine Good.pure h (v:=v) ?_ hrv;have hsz:(Go.sizeOf e).run P w= .ok i.size w:=by simp[sizeOf,typeInfo,program,Sem.run,hi]
   simp[execOp,ho,Instr.index,run_underlying ht,hv,hj,asIntOf,h0.1,h0.2,hsz,hp]
  ·cases he
 ·cases he
theorem Rel.Vb(h:Rel E S a w L){y:PV}{v:Value}{es:List (List PV)}(r:bm w (bu E S L) (S.gh L) y v)(he:lq S y=some es):∃(ad:Option Addr) (c:Nat),v= .slice ad es.length c:=by
 unfold lq at he;split at he
 ·injection he with he;subst he;exact⟨none,0,r.rG⟩
 ·injection he with he;subst he
  rcases r.Fq with⟨hv,h0⟩|⟨ad,c,k,vs,hv,_⟩
  ·subst h0;exact⟨none,0,hv⟩
  ·exact⟨_,_,hv⟩
 ·rename_i id av;split at he
  ·rename_i hver;split at he
   ·rename_i hc;injection he with he;subst he
    obtain⟨hN,hv⟩:=r.nN (show(S.gh L).V id=av from hver)
    obtain⟨vs,hown,hk,hr⟩:=h.k8 hN hc;rcases hown.2 with⟨hL,h0⟩|⟨g,cap,cur,hL,_⟩
    ·exact⟨none,0,by rw[hv,show(S.gh L).L id=L id from rfl,hL,h0]⟩
    ·exact⟨_,_,by rw[hv,show(S.gh L).L id=L id from rfl,hL]⟩
   ·cases he
  ·cases he
 ·rename_i id av k lo n;split at he
  ·rename_i hver;split at he
   ·split at he
    ·rename_i e1 k' es0 hc _;injection he with he;subst he
     obtain⟨hN,ad,c,hv,hat⟩:=r.As (show(S.gh L).V id=av from hver)
     have hb:=h.JI hN hc hat;refine⟨ad,c,?_⟩;rw[hv];congr 1;simp;omega
    ·cases he
   ·cases he
  ·cases he
 ·cases he
theorem agr(h:Rel E S a w L){y:Operand}{y':bq}{t:TypeId}(ho:o.op= .call {callee:= .builtin .len,args:=#[y],argTypes:=#[t]})(ht:P.underlying t=some .string)(hy:bB y=some y')
  (he:exec Γ nid S (.len true y')=some (x,wr)):Good P E S a w o x wr:=by
 have r:=h.iO hy;simp only[exec]at he;split at he
 ·rename_i s e;rw[e]at r;obtain⟨rfl,rfl⟩:=bQ he;have hv:=r.yH;exact Good.pure h (by simp[execOp,ho,resolve,invoke,builtin,Builtin.len_,run_underlying ht,hv,goInt]) (.int _ _)
 ·cases he
theorem ahI(h:Rel E S a w L){y:Operand}{y':bq}{t e:TypeId}(ho:o.op= .call {callee:= .builtin .len,args:=#[y],argTypes:=#[t]})(ht:P.underlying t=some (.slice e))(hy:bB y=some y')
  (he:exec Γ nid S (.len false y')=some (x,wr)):Good P E S a w o x wr:=by
 have r:=h.iO hy;simp only[exec,Qb]at he;obtain⟨es,hes,he⟩:=he;injection he with h1 h2
 subst h1 h2;obtain⟨ad,c,hv⟩:=h.Vb r hes;exact Good.pure h (by simp[execOp,ho,resolve,invoke,builtin,Builtin.len_,run_underlying ht,hv,goInt]) (.int _ _)
theorem U1(h:Rel E S a w L){y z:Operand}{y' z':bq}{mx:Bool}{ts:Array TypeId}(ho:o.op= .call {callee:= .builtin (if mx then .max else .min),args:=#[y,z],argTypes:=ts})(hy:bB y=some y')(hz:bB z=some z')
  (he:exec Γ nid S (.u9 mx y' z')=some (x,wr)):Good P E S a w o x wr:=by
 have ry:=h.iO hy;have rz:=h.iO hz;simp only[exec]at he;split at he
 ·rename_i k p k' q e1 e2;split at he
  ·rename_i hk;subst hk;obtain⟨rfl,rfl⟩:=bQ he;rw[e1]at ry;rw[e2]at rz;have hv:=ry.fU;have hu:=rz.fU;cases mx
   ·exact Good.pure h (by simp[execOp,ho,resolve,invoke,builtin,Builtin.min_,Builtin.min2,hv,hu]) (.int _ _)
   ·exact Good.pure h (by simp[execOp,ho,resolve,invoke,builtin,Builtin.max_,Builtin.max2,hv,hu]) (.int _ _)
  ·cases he
 ·cases he
end
end
section
open Go.RowKit
section
variable {P : Program} {E : En} {S : St} {a : Act} {w : World} {L : Nat -> Value} {o : Oper} {x : PV} {wr : Option (Nat × gp)} {Γ : pM} {nid : Nat}
theorem Ox(off:Nat):∀(vs:List Value) (s:Nat) (cells:Array Value),off+s+vs.length<=cells.size->
  ((vs.zipIdx s).foldl (fun cs (p:Value×Nat)=>cs.setIfInBounds (off+p.2) p.1) cells).toList=cells.toList.take (off+s)++vs++cells.toList.drop (off+s+vs.length)
 |[],s,cells,_=>by simp
 |v::vs,s,cells,h=>by
  simp only[List.zipIdx_cons,QU];rw[Ox off vs (s+1) _ (by simp at h ⊢;omega)]
  have:=list_seg_step cells.toList (off+s) v vs (by simp at h ⊢;omega)
  simpa[Array.toList_setIfInBounds,Nat.add_assoc]using this
theorem YE(off:Nat)(vs cells:Array Value)(h:off+vs.size<=cells.size):
  (vs.zipIdx.foldl (fun cs (p:Value×Nat)=>cs.setIfInBounds (off+p.2) p.1) cells).toList=cells.toList.take off++vs.toList++cells.toList.drop (off+vs.size):=by
 have:=Ox off vs.toList 0 cells (by simpa using h)
 simp only[Nat.add_zero,Array.length_toList]at this;rw[<-this,<-Array.foldl_toList];simp
theorem bj.iW{M:Nat->Prop}{G:Gh}{cs xs:List PV}{vs us:List Value}(h:bj w M G cs vs)(k:bj w M G xs us)(off:Nat):
  bj w M G (iW cs off xs) (vs.take off++us++vs.drop (off+us.length)):=by
 unfold TQ.iW;rw[k.1];exact((h.take off).append k).append (h.drop _)
theorem Ka(h:Rel E S a w L)(place:Nat->Option (Nat×Nat)):∀(parts:List (Nat×Operand)) (ps:List (Nat×Nat×bq)) (cells:Array Value) (cs cs':List PV),xv place parts=some ps->
  bj w (bu E S L) (S.gh L) cs cells.toList->sx S cs ps=some cs'->∃cells',Instr.fill place cells (parts.map fun p=>(p.1,a.eval p.2))=some cells'/\bj w (bu E S L) (S.gh L) cs' cells'.toList
 |[],ps,cells,cs,cs',hp,hr,hf=>by
  simp[xv]at hp;subst hp;simp only[sx,Qf]at hf;subst hf;exact⟨cells,rfl,hr⟩
 |(i,y)::rest,ps,cells,cs,cs',hp,hr,hf=>by
  simp only[xv,Qq75,Qd,Qc,Option.pure_def,Qf]at hp;obtain⟨_,⟨⟨off,n⟩,hq,y',hy,rfl⟩,qs,hqs,rfl⟩:=hp;simp only[sx]at hf;split at hf
  ·rename_i hb;obtain⟨h1,h2,h3⟩:=hb;have r:=(h.iO hy).cells (fun z hz=>QH.1 h3 z hz)
   have hn:(a.eval y).cells.size=n:=by have:=r.1.1;simp at this;omega
   have hlen:cells.size=cs.length:=by have:=hr.1;simpa using this
   have hfc:=YE off (a.eval y).cells cells (by omega)
   have hr2:bj w (bu E S L) (S.gh L) (TQ.iW cs off (y'.val S).cells) ((a.eval y).cells.zipIdx.foldl (fun cs (p:Value×Nat)=>cs.setIfInBounds (off+p.2) p.1) cells).toList:=by
    rw[hfc];have:=hr.iW r.1 off;simpa using this
   obtain⟨cells',hfl,hr'⟩:=Ka h place rest qs _ _ cs' hqs hr2 hf;refine⟨cells',?_,hr'⟩;simp only[QD,Instr.fill,hq];rw[Qs (by simp[hn];omega)]
   exact hfl
  ·cases hf
theorem NK{M:Nat->Prop}{G:Gh}:∀{vs:List Value} {cs:List PV},vs.mapM AU=some cs->bj w M G cs vs
 |[],cs,h=>by simp at h;subst h;exact .nil
 |v::vs,cs,h=>by
  simp only[Qq75,Qd,Qc,Option.pure_def,Qf]at h;obtain⟨x,hx,xs,hxs,rfl⟩:=h;exact .cons (Fa hx) (NK hxs)
theorem C5{M:Nat->Prop}{G:Gh}{t:TypeId}{z:List PV}(h:vT P t=some z):∃i v,P.info? t=some i/\i.zero=some v/\v.cells.size=i.size/\bj w M G z v.cells.toList:=by
 unfold vT at h;split at h
 ·rename_i i hi;split at h
  ·rename_i v hv;split at h
   ·rename_i hs;exact⟨i,v,hi,hv,hs,NK h⟩
   ·cases h
  ·cases h
 ·cases h
theorem Xk(h:Rel E S a w L){t:TypeId}{parts:Array (Nat×Operand)}{z:List PV}{ps:List (Nat×Nat×bq)}(ho:o.op= .build t parts)(hz:vT P t=some z)
  (hp:(∃fields places,P.underlying t=some (.struct fields)/\fields.toList.mapM (fun f=>(P.info? f.type).map fun i=>(f.offset,i.size))=some places/\xv (fun i=>places[i]?) parts.toList=some ps)\/
   (∃n e i,P.underlying t=some (.array n e)/\P.info? e=some i/\xv (fun j=>some (j*i.size,i.size)) parts.toList=some ps))
  (he:exec Γ nid S (.build z ps)=some (x,wr)):Good P E S a w o x wr:=by
 simp only[exec,Qb]at he;obtain⟨cs,hf,he⟩:=he;injection he with h1 h2
 subst h1 h2;obtain⟨i,v,hi,hv,hs,hr⟩:=C5 (P:=P) (w:=w) (M:=bu E S L) (G:=S.gh L) hz;rcases hp with⟨fields,places,hu,hpl,hc⟩|⟨n,e,ie,hu,hie,hc⟩
 ·obtain⟨cells,hfl,hr'⟩:=Ka h _ _ _ _ _ _ hc hr hf;refine Good.pure (v:= .agg cells) h ?_ (by have:=hr';exact(show(cells:Array Value)=cells.toList.toArray by simp)▸ .agg cs cells.toList this.1 this.2)
  have hb:P.built t (parts.map fun(i,x)=>(i,a.eval x)).toList=some cells:=by
   simp only[Program.built,hi,hu,hv,hpl];simpa using hfl
  simp only[execOp,ho,Sem.run_bind,run_build w t _ cells hb,Result.andThen_ok,Sem.run_pure]
 ·obtain⟨cells,hfl,hr'⟩:=Ka h _ _ _ _ _ _ hc hr hf;refine Good.pure (v:= .agg cells) h ?_ (by have:=hr';exact(show(cells:Array Value)=cells.toList.toArray by simp)▸ .agg cs cells.toList this.1 this.2)
  have hb:P.built t (parts.map fun(i,x)=>(i,a.eval x)).toList=some cells:=by
   simp only[Program.built,hi,hu,hv,hie];simpa using hfl
  simp only[execOp,ho,Sem.run_bind,run_build w t _ cells hb,Result.andThen_ok,Sem.run_pure]
end
end
section
open Go.RowKit
section
variable {P : Program} {E : En} {S : St} {a : Act} {w : World} {L : Nat -> Value} {o : Oper} {x : PV} {wr : Option (Nat × gp)} {Γ : pM} {nid : Nat}
theorem Rel.aaa(h:Rel E S a w L)(hn:nid<S.N){cs:List PV}{cur:Array Value}(T:TypeId)(hr:bj w (bu E S L) (S.gh L) cs cur.toList):
  ∃L',Rel E (S.fL (some (nid,⟨(S.H nid).av+1,.box cs⟩))) a (w.alloc (.cells cur T)) L'/\
   bm (w.alloc (.cells cur T)) (bu E (S.fL (some (nid,⟨(S.H nid).av+1,.box cs⟩))) L') ((S.fL (some (nid,⟨(S.H nid).av+1,.box cs⟩))).gh L') (.ptr nid ((S.H nid).av+1) 0) (.pointer (some ⟨w.heap.size,0,none⟩)):=by
 obtain⟨h1,hs,hg⟩:=h.uQ (w':=w.alloc (.cells cur T)) hn ⟨(S.H nid).av+1,.box cs⟩ (.pointer (some ⟨w.heap.size,0,none⟩)) (.inr (Nat.lt_succ_self _)) rfl rfl rfl (by simp)
  (fun b hb _=>Below.heap_alloc _ _ _ hb) (fun b _ hb=> .inr (by simp only[cp,Qf]at hb;omega))
  (fun hs hg=>⟨w.heap.size,cur,T,rfl,heap_alloc_new w _,.inr h.fr.size,hr.mono hs hg⟩)
 refine⟨_,h1,?_⟩;refine .ptr _ _ _ _ hn ?_ (fun _=> ?_)
 ·simp[St.gh,St.fL,cq]
 ·simp[St.gh,St.fL,cq,cp]
theorem Rel.newRow(h:Rel E S a w L)(hn:nid<S.N){e k:Nat}{es:List (List PV)}{cur:Array Value}(hk:∀u∈es,u.length=k)(hm:es.length<=maxLen)(hr:bj w (bu E S L) (S.gh L) es.flatten cur.toList):
  ∃L',Rel E (S.fL (some (nid,⟨(S.H nid).av+1,.row e k es⟩))) a (w.alloc (.cells cur e)) L'/\
   bm (w.alloc (.cells cur e)) (bu E (S.fL (some (nid,⟨(S.H nid).av+1,.row e k es⟩))) L') ((S.fL (some (nid,⟨(S.H nid).av+1,.row e k es⟩))).gh L') (.own nid ((S.H nid).av+1)) (.slice (some ⟨w.heap.size,0,none⟩) es.length es.length):=by
 have hl:cur.toList.length=es.length*k:=by rw[hr.1,rL es k hk]
 obtain⟨h1,hs,hg⟩:=h.uQ (w':=w.alloc (.cells cur e)) hn ⟨(S.H nid).av+1,.row e k es⟩ (.slice (some ⟨w.heap.size,0,none⟩) es.length es.length) (.inr (Nat.lt_succ_self _)) rfl rfl rfl (by simp)
  (fun b hb _=>Below.heap_alloc _ _ _ hb) (fun b _ hb=> .inr (by simp only[cp,Qf]at hb;omega))
  (fun hs hg=>⟨cur.toList,⟨hl,.inr ⟨w.heap.size,es.length,cur,rfl,QK (Nc E _) h.fr.size,heap_alloc_new w _,QI _,hm,by simpa using hl,by rw[<-hl];exact Qq62⟩⟩,hk,hr.mono hs hg⟩)
 refine⟨_,h1,?_⟩;refine .own _ _ _ _ _ hn ?_ (fun _=> ?_)
 ·simp[St.gh,St.fL,cq]
 ·simp[St.gh,St.fL,cq]
theorem M6(e:TypeId)(cells:Array Value):(newRow e cells).run P w= .ok ⟨w.heap.size,0,none⟩ (w.alloc (.cells cells e)):=rfl
theorem Gr(e:TypeId)(v:Value):(newVar e v).run P w= .ok ⟨w.heap.size,0,none⟩ (w.alloc (.cells v.cells e)):=rfl
theorem adh(h:Rel E S a w L)(hn:nid<S.N){t:TypeId}{y:Operand}{y':bq}(ho:o.op= .box t y)(hy:bB y=some y')(he:exec Γ nid S (.box y')=some (x,wr)):Good P E S a w o x wr:=by
 simp only[exec]at he;split at he
 ·rename_i h1;obtain⟨rfl,rfl⟩:=bQ he;have r:=((h.iO hy).cells (fun z hz=>QH.1 h1 z hz)).1
  obtain⟨L',h2,h3⟩:=h.aaa hn t r;exact⟨_,_,L',_,by simp[execOp,ho,Instr.box,Gr],.inl rfl,h3,h2⟩
 ·cases he
theorem aeL(h:Rel E S a w L)(hn:nid<S.N){t:TypeId}{z:List PV}(ho:o.op= .alloc t)(hz:vT P t=some z)(he:exec Γ nid S (.alloc z)=some (x,wr)):Good P E S a w o x wr:=by
 simp only[exec]at he;obtain⟨rfl,rfl⟩:=bQ he;obtain⟨i,v,hi,hv,hs,hr⟩:=C5 (P:=P) (w:=w) (M:=bu E S L) (G:=S.gh L) hz;obtain⟨L',h2,h3⟩:=h.aaa hn t hr;exact⟨_,_,L',_,by simp[execOp,ho,Instr.alloc,zeroValue,typeInfo,hi,hv,Gr],.inl rfl,h3,h2⟩
theorem IQ(z:Array Value)(hz:0<z.size)(n:Nat):((Array.range (n*z.size)).map (z[· % z.size]!)).toList=(List.replicate n z.toList).flatten:=by
 apply List.ext_getElem?;intro i;have hfl:(List.replicate n z.toList).flatten.length=n*z.size:=by rw[rL _ z.size (fun u hu=>by rw[(List.mem_replicate.1 hu).2];simp)];simp
 by_cases hi:i<n*z.size
 ·have hq:i / z.size<n:=by rw[Nat.div_lt_iff_lt_mul hz];exact hi
  have hr:i % z.size<z.size:=Nat.mod_lt _ hz;have:=zP (List.replicate n z.toList) z.size (i / z.size) z.toList (fun u hu=>by rw[(List.mem_replicate.1 hu).2];simp) (by rw[List.getElem?_replicate,Qr hq]) (i % z.size) hr
  have e:i / z.size*z.size+i % z.size=i:=by rw[Nat.mul_comm];exact Nat.div_add_mod i z.size
  rw[e]at this;rw[this];simp[hi,hr]
 ·rw[Qq72 (by simp;omega),Qq72 (by omega)]
theorem E3{α:Type}:∀(es:List (List α)) (k i:Nat) (xs:List α),(∀u∈es,u.length=k)->xs.length=k->i<es.length->(es.set i xs).flatten=es.flatten.take (i*k)++xs++es.flatten.drop (i*k+xs.length)
 |[],_,_,_,_,_,h=>by simp at h
 |e::es,k,i,xs,hk,hx,hi=>by
  have he:e.length=k:=hk e (by simp)
  cases i with
  |zero=>
   simp only[List.set_cons_zero,List.flatten_cons,Nat.zero_mul,List.take_zero,List.nil_append,Nat.zero_add];rw[hx,<-he,List.drop_left]
  |succ i=>
   have:=E3 es k i xs (fun u hu=>hk u (by simp[hu])) hx (by simpa using hi)
   simp only[List.set_cons_succ,List.flatten_cons,this];have e1:(i+1)*k=e.length+i*k:=by rw[Qq73,he];omega
   rw[e1,List.take_append,List.take_of_length_le (show e.length<=e.length+i*k by omega),Nat.add_sub_cancel_left,Nat.add_assoc,List.drop_append,
    List.drop_eq_nil_of_le (show e.length<=e.length+(i*k+xs.length)by omega),Nat.add_sub_cancel_left]
   simp
theorem Sb(k:Nat):∀(ps:List (Nat×bq)) (es es':List (List PV)),(∀u∈es,u.length=k)->vp S k es ps=some es'->
  sx S es.flatten (ps.map fun p=>(p.1*k,k,p.2))=some es'.flatten/\(∀u∈es',u.length=k)/\es'.length=es.length
 |[],es,es',hk,hf=>by simp only[vp,Qf]at hf;subst hf;exact⟨rfl,hk,rfl⟩
 |(i,y)::ps,es,es',hk,hf=>by
  simp only[vp]at hf;split at hf
  ·rename_i hb;obtain⟨h1,h2,h3⟩:=hb
   have hk':∀u∈es.set i (y.val S).cells,u.length=k:=by
    intro u hu;rcases List.mem_or_eq_of_mem_set hu with hu|hu
    ·exact hk u hu
    ·rw[hu,h1]
   obtain⟨h4,h5,h6⟩:=Sb k ps _ _ hk' hf;refine⟨?_,h5,by simpa using h6⟩
   have hle:i*k+k<=es.flatten.length:=by
    rw[rL es k hk];have:=Qq63 k (show i+1<=es.length by omega)
    rw[Qq73]at this;omega
   simp only[QD,sx];rw[Qr ⟨h1,hle,h3⟩];rw[E3 es k i _ hk h1 h2]at h4;exact h4
  ·cases hf
theorem Si{k:Nat}:∀{parts:List (Nat×Operand)} {ps:List (Nat×bq)},(parts.mapM fun p=>(bB p.2).map fun y=>(p.1,y))=some ps->xv (fun j=>some (j*k,k)) parts=some (ps.map fun p=>(p.1*k,k,p.2))
 |[],ps,h=>by simp at h;subst h;simp[xv]
 |p::parts,ps,h=>by
  simp only[Qq75,Qd,Qc,Option.pure_def,Qf,Qb]at h;obtain⟨q,⟨y,hy,rfl⟩,qs,hqs,rfl⟩:=h;have ih:=Si (k:=k) hqs;unfold xv at ih ⊢;simp only[Qq75,ih];simp[hy]
theorem xH{M:Nat->Prop}{G:Gh}{z:List PV}{vs:List Value}(h:bj w M G z vs):∀n,bj w M G (List.replicate n z).flatten (List.replicate n vs).flatten
 |0=>by simpa using bj.nil
 |n+1=>by simp only[List.replicate_succ,List.flatten_cons];exact h.append (xH h n)
theorem bm.XA{M:Nat->Prop}{G G':Gh}{y:PV}{v:Value}(h:bm w M G y v)(hc:y.closed=true):bm w M G' y v:=by
 cases h with
 |any=>simp[PV.closed]at hc
 |undef=>simp[PV.closed]at hc
 |int=>exact .int _ _
 |bool=>exact .bool _
 |gS=>first|exact .gS _|simp[PV.closed]at hc
 |str=>exact .str _
 |lz=>exact .lz
 |et=>exact .et
 |bG f cs vs hl h=>
  cases cs with
  |nil=>exact .bG f [] vs hl (fun i x v hx _=>by simp at hx)
  |cons=>simp[PV.closed]at hc
 |jN=>simp[PV.closed]at hc
 |agg=>simp[PV.closed]at hc
 |eo=>simp[PV.closed]at hc
 |ptr=>simp[PV.closed]at hc
 |ref cs ad vs hl hcell h=>exact .ref cs ad vs hl hcell h
 |sl es ad c k vs hk hl hcell h hn hm=>exact .sl es ad c k vs hk hl hcell h hn hm
 |slnil=>exact .slnil
 |own=>simp[PV.closed]at hc
 |fg=>simp[PV.closed]at hc
 |view=>simp[PV.closed]at hc
 |jc ks us b es ck hb hMb hk hv h1 h2=>exact .jc ks us b es ck hb hMb hk hv h1 h2
theorem agu(h:Rel E S a w L){t:TypeId}{y:Operand}{y':bq}(ho:o.op= .box t y)(hy:bB y=some y')(he:exec Γ nid S (.Fb y')=some (x,wr)):Good P E S a w o x wr:=by
 simp only[exec]at he;split at he
 ·rename_i h1;rw[Qm]at h1;obtain⟨rfl,rfl⟩:=bQ he;have r:=((h.iO hy).cells (fun z hz=>QH.1 h1.1 z hz)).1
  obtain⟨h2,hs1⟩:=h.grow (w':=w.alloc (.cells (a.eval y).cells t)) rfl rfl rfl (by simp) (fun b hb=>Below.heap_alloc _ _ _ hb)
  refine⟨.value (.pointer (some ⟨w.heap.size,0,none⟩)),_,L,_,by simp[execOp,ho,Instr.box,Gr],.inl rfl,?_,h2⟩
  have r2:bj (w.alloc (.cells (a.eval y).cells t)) (bu E S L) dw (y'.val S).cells (a.eval y).cells.toList:=
   ⟨r.1,fun i0 z v0 hz hv0=>((r.2 i0 z v0 hz hv0).mono hs1 (Gh.le.refl _)).XA (QH.1 h1.2 z (Q8 hz))⟩
  refine .ref _ _ (a.eval y).cells.toList r2.1 (fun q u hu=>⟨?_,fun hm=> ?_⟩) r2.2
  ·rw[add_mid];exact qW (heap_alloc_new w _) (by simpa using hu)
  ·rcases hm with⟨id,hid,hl,hb⟩|hm
   ·have:=((h.obj id hid).zT hl hb).1;exact absurd this (Nat.lt_irrefl _)
   ·have h8:=E.hX _ hm;have h9:=h.fr.size;simp only at h8;omega
 ·cases he
theorem bm.nz{M:Nat->Prop}{G:Gh}{y:PV}{v:Value}(h:bm w M G y v):bm w M G (nz y) v:=by
 cases h with
 |et=>exact .slnil
 |any=>exact .any _
 |undef=>exact .undef
 |int=>exact .int _ _
 |bool=>exact .bool _
 |gS=>exact .gS _
 |str=>exact .str _
 |lz=>exact .lz
 |bG f cs vs hl h=>exact .bG f cs vs hl h
 |jN f cs vs hl h=>exact .jN f cs vs hl h
 |agg cs vs hl h=>exact .agg cs vs hl h
 |eo cs vs hl h=>exact .eo cs vs hl h
 |ptr _ _ _ _ h1 h2 h3=>exact .ptr _ _ _ _ h1 h2 h3
 |ref cs ad vs hl hc h=>exact .ref cs ad vs hl hc h
 |sl es ad c k vs hk hl hc h hn hm=>exact .sl es ad c k vs hk hl hc h hn hm
 |slnil=>exact .slnil
 |own _ _ _ _ _ h1 h2 h3=>exact .own _ _ _ _ _ h1 h2 h3
 |fg _ _ _ _ _ _ h1 h2 h3=>exact .fg _ _ _ _ _ _ h1 h2 h3
 |view _ _ _ _ _ _ _ h1 h2 h3=>exact .view _ _ _ _ _ _ _ h1 h2 h3
 |jc ks us b es ck hb hMb hk hv h1 h2=>exact .jc ks us b es ck hb hMb hk hv h1 h2
theorem bj.nz{M:Nat->Prop}{G:Gh}{cs:List PV}{vs:List Value}(h:bj w M G cs vs):bj w M G (cs.map Go.TQ.nz) vs:=
 ⟨by simp[h.1],fun i x v hx hv=>by
  rw[QT,Qb]at hx;obtain⟨y,hy,rfl⟩:=hx
  exact(h.2 i y v hy hv).nz⟩
theorem K6(es:List (List PV)):(Dl es).flatten=es.flatten.map nz:=by
 simp[Dl,List.map_flatten]
theorem Yp(es:List (List PV)):(Dl es).length=es.length:=by simp[Dl]
theorem aem{es:List (List PV)}{k:Nat}(h:∀u∈es,u.length=k):∀u∈Dl es,u.length=k:=by
 intro u hu;simp only[Dl,QP]at hu;obtain⟨e,he,rfl⟩:=hu;simpa using h e he
theorem Z4{y:PV}(h:y.closed=true):(nz y).closed=true:=by
 cases y<;>simp_all [nz,PV.closed]
theorem ahK(h:Rel E S a w L)(hn:nid<S.N){t e:TypeId}{len:Nat}{parts:Array (Nat×Operand)}{i:TypeInfo}{z:List PV}{ps:List (Nat×bq)}{mb:Bool}(ho:o.op= .buildSlice t len parts)(ht:P.underlying t=some (.slice e))
  (hi:P.info? e=some i) (hz:vT P e=some z) (hps:(parts.toList.mapM fun p=>(bB p.2).map fun y=>(p.1,y))=some ps) (hsm:len*i.size<=16777216) (h0:0<i.size) (hlen:len<=maxLen)
  (he:exec Γ nid S (.OL mb e i.size (List.replicate len z) ps)=some (x,wr)):Good P E S a w o x wr:=by
 simp only[exec]at he;split at he
 case h_2=>cases he
 rename_i es hf;obtain⟨i',v,hi',hv,hs,hr⟩:=C5 (P:=P) (w:=w) (M:=bu E S L) (G:=S.gh L) hz;rw[hi]at hi';injection hi' with hi'
 subst hi';have hzl:z.length=i.size:=by have:=hr.1;simp at this;omega
 obtain⟨h3,h4,h5⟩:=Sb i.size ps _ _ (fun u hu=>by rw[(List.mem_replicate.1 hu).2,hzl]) hf
 have hr0:bj w (bu E S L) (S.gh L) (List.replicate len z).flatten ((Array.range (len*i.size)).map (v.cells[· % v.cells.size]!)).toList:=by
  rw[<-hs,IQ v.cells (by omega)]
  exact xH hr len
 obtain⟨cells,hfl,hr'⟩:=Ka h _ _ _ _ _ _ (Si hps) hr0 h3;have hle:(Dl es).length=len:=by rw[Yp,h5];simp
 replace h4:=aem h4;replace hr':=hr'.nz;rw[<-K6]at hr'
 have hrun:(execOp a.eval o).run P w= .ok (.value (.slice (some ⟨w.heap.size,0,none⟩) len len)) (w.alloc (.cells cells e)):=by
  have hfl':Instr.fill (fun j=>some (j*i.size,i.size)) ((Array.range (len*i.size)).map (v.cells[· % v.cells.size]!)) (parts.map fun p=>(p.1,a.eval p.2)).toList=some cells:=by simpa using hfl
  by_cases hl0:len*i.size=0
  ·simp[execOp,ho,Instr.buildSlice,run_underlying ht,sizeOf,typeInfo,hi,hl0]at hfl' ⊢;have hle0:len=0:=by rcases Nat.mul_eq_zero.1 hl0 with h|h<;>omega
   subst hle0;have hnil:∀f:Nat->Value,Array.map f (Array.range 0)=#[]:=fun f=>by simp
   rw[hnil]at hfl' ⊢;rw[show Instr.fill (fun i_1=>some (i_1*i.size,i.size)) #[] (List.map (fun x=>(x.fst,a.eval x.snd)) parts.toList)=some cells from hfl']
   simp[M6]
  ·simp[execOp,ho,Instr.buildSlice,run_underlying ht,sizeOf,typeInfo,zeroValue,hi,hv,hl0,Nat.not_lt.2 hsm]at hfl' ⊢;rw[show Instr.fill (fun i_1=>some (i_1*i.size,i.size)) (Array.map (fun x=>v.cells[x % v.cells.size]!) (Array.range (len*i.size))) (List.map (fun x=>(x.fst,a.eval x.snd)) parts.toList)=some cells from hfl']
   simp[M6]
 split at he
 ·rename_i hcl;obtain⟨rfl,rfl⟩:=bQ he;obtain⟨h1,hs1⟩:=h.grow (w':=w.alloc (.cells cells e)) rfl rfl rfl (by simp) (fun b hb=>Below.heap_alloc _ _ _ hb)
  refine⟨_,_,L,_,hrun,.inl rfl,?_,h1⟩
  have hall:∀y∈(Dl es).flatten,y.closed=true:=fun y hy=>by
   rw[K6]at hy;obtain⟨y0,hy0,rfl⟩:=QP.1 hy;obtain⟨u,hu,hyu⟩:=List.mem_flatten.1 hy0;exact Z4 (QH.1 (QH.1 hcl.2 u hu) y0 hyu)
  have hr2:bj (w.alloc (.cells cells e)) (bu E S L) dw (Dl es).flatten cells.toList:=
   ⟨hr'.1,fun i0 y v0 hy hv0=>((hr'.2 i0 y v0 hy hv0).mono hs1 (Gh.le.refl _)).XA (hall y (Q8 hy))⟩
  rw[<-hle];refine .sl (Dl es) _ _ i.size cells.toList h4 hr2.1 (fun q u hu=>⟨?_,fun hm=> ?_⟩) hr2.2 (QI _) (by omega)
  ·rw[add_mid];exact qW (heap_alloc_new w _) (by simpa using hu)
  ·rcases hm with⟨id,hid,hl,hb⟩|hm
   ·have:=((h.obj id hid).zT hl hb).1;exact absurd this (Nat.lt_irrefl _)
   ·have h8:=E.hX _ hm;have h9:=h.fr.size;simp only at h8;omega
 ·obtain⟨rfl,rfl⟩:=bQ he;obtain⟨L',h6,h7⟩:=h.newRow (e:=e) hn h4 (by omega) hr'
  rw[hle]at h7;exact⟨_,_,L',_,hrun,.inl rfl,h7,h6⟩
theorem ahF(h:Rel E S a w L)(hn:nid<S.N){t e:TypeId}{y z:Operand}{y' z':bq}{i:TypeInfo}{zc:List PV}(ho:o.op= .makeSlice t y z)(ht:P.underlying t=some (.slice e))(hi:P.info? e=some i)(h0:0<i.size)(hz:vT P e=some zc)
  (hy:bB y=some y') (hz':bB z=some z') (he:exec Γ nid S (.NH e i.size i.bytes zc y' z')=some (x,wr)):Good P E S a w o x wr:=by
 have ry:=h.iO hy;have rz:=h.iO hz';simp only[exec]at he;split at he
 ·rename_i k n k' m e1 e2;split at he
  ·rename_i hb;obtain⟨rfl,hn0,hby,hml⟩:=hb;obtain⟨rfl,rfl⟩:=bQ he;rw[e1]at ry;rw[e2]at rz;have hv:=ry.fU;have hu:=rz.fU;obtain⟨i',v,hi',hv0,hs,hr⟩:=C5 (P:=P) (w:=w) (M:=bu E S L) (G:=S.gh L) hz;rw[hi]at hi';injection hi' with hi'
   subst hi';have hzl:zc.length=i.size:=by have:=hr.1;simp at this;omega
   have hr0:bj w (bu E S L) (S.gh L) (List.replicate n.toNat (zc.map nz)).flatten (madeCells v.cells (n.toNat*i.size)).toList:=by
    unfold madeCells;rw[<-hs,IQ v.cells (by omega)]
    exact xH hr.nz _
   obtain⟨L',h6,h7⟩:=h.newRow (e:=e) (k:=i.size) hn (fun u hu=>by rw[(List.mem_replicate.1 hu).2,QC,hzl]) (by simpa using hml) hr0
   simp only[List.length_replicate]at h7;refine⟨_,_,L',_,?_,.inl rfl,h7,h6⟩
   have hbb:(i.bytes:Int)*n<=281474976710656:=by
    have h1:((n.toNat*i.bytes:Nat):Int)<=140737488355328:=by omega
    have h2:((n.toNat:Nat):Int)=n:=Int.toNat_of_nonneg hn0;rw[Int.natCast_mul,h2,Int.mul_comm]at h1;omega
   have hm63:n<=9223372036854775807:=by simp only[maxLen]at hml;omega
   have:=run_make (P:=P) w t e i v ht hi hv0 k k' n n hn0 (Int.le_refl _) hbb hm63;simp only[execOp,ho,hv,hu,Sem.run_bind,this,Result.andThen_ok,Sem.run_pure]
  ·cases he
 ·cases he
theorem Im{t:TypeId}{y z:Operand}{b off:Nat}{cur:Array Value}{T:TypeId}{i:TypeInfo}(ho:o.op= .store t y z)(hi:P.info? t=some i)(hv:a.eval y= .pointer (some ⟨b,off,none⟩))(hh:w.heap[b]?=some (.cells cur T (0,0)))
  (hs:(a.eval z).cells.size=i.size) (hle:off+i.size<=cur.size) (h1:∀u∈(a.eval z).cells.toList,u.oneCell'=true):
  (execOp a.eval o).run P w= .ok .skip (w.setRow b (cur.toList.take off++(a.eval z).cells.toList++cur.toList.drop (off+i.size)).toArray):=by
 have:=run_storeCells_at (P:=P) b off T (a.eval z).cells.toList 0 cur w hh (by simp;omega) h1
 simp only[Nat.add_zero,Array.length_toList,hs]at this;simp[execOp,ho,hv,Instr.storeAt,Instr.sureAddr,storeVar,sizeOf,typeInfo,hi,hs,this]
theorem XT{α:Type}(F c xs:List α)(k J off n:Nat)(hc:c.length=k)(hjk:J+k<=F.length)(hx:xs.length=n)(hle:off+n<=k)(hel:∀q,q<k->F[J+q]?=c[q]?):
  F.take J++(c.take off++xs++c.drop (off+n))++F.drop (J+k)=F.take (J+off)++xs++F.drop (J+off+n):=by
 have h1:F.take (J+off)=F.take J++c.take off:=by
  apply List.ext_getElem?;intro q
  by_cases q1:q<J
  ·rw[List.getElem?_append_left (by simp;omega),Qq68,Qr (by omega),Qq68,Qr q1]
  ·rw[List.getElem?_append_right (by simp;omega),Qq68,Qq68]
   have e:(F.take J).length=J:=by simp;omega
   rw[e]
   by_cases q2:q<J+off
   ·rw[Qr q2,Qr (by omega),<-hel _ (by omega)]
    congr 1;omega
   ·rw[Qs q2,Qs (by omega)]
 have h2:F.drop (J+off+n)=c.drop (off+n)++F.drop (J+k):=by
  apply List.ext_getElem?;intro q;rw[List.getElem?_drop]
  by_cases q1:q<k - (off+n)
  ·rw[List.getElem?_append_left (by simp;omega),List.getElem?_drop,<-hel _ (by omega)]
   congr 1;omega
  ·rw[List.getElem?_append_right (by simp;omega),List.getElem?_drop]
   have e:(c.drop (off+n)).length=k - (off+n):=by simp;omega
   rw[e];congr 1;omega
 rw[h1,h2];simp[QL]
theorem KY{α:Type}(cur xs:List α)(p n m:Nat)(hx:xs.length=n)(h1:p+n<=m)(h2:m<=cur.length):
  (cur.take p++xs++cur.drop (p+n)).take m=(cur.take m).take p++xs++(cur.take m).drop (p+n):=by
 rw[List.take_take,Nat.min_eq_left (by omega),List.take_append,List.take_of_length_le (by simp;omega)]
 congr 1;have e:(cur.take p++xs).length=p+n:=by simp;omega
 rw[e,List.drop_take]
theorem aeG(h:Rel E S a w L){t:TypeId}{y z:Operand}{y' z':bq}{i:TypeInfo}(ho:o.op= .store t y z)(hi:P.info? t=some i)(hy:bB y=some y')(hz:bB z=some z')
  (he:exec Γ nid S (.store i.size y' z')=some (x,wr)):Good P E S a w o x wr:=by
 have r:=h.iO hy;simp only[exec]at he;split at he
 ·rename_i hb;obtain⟨hl,h1⟩:=hb;have rz:=(h.iO hz).cells (fun u hu=>QH.1 h1 u hu)
  have hs:(a.eval z).cells.size=i.size:=by have:=rz.1.1;simp at this;omega
  split at he
  ·rename_i id av off e;rw[e]at r;split at he
   ·rename_i hver;split at he
    ·rename_i cs hc;split at he
     ·rename_i hle;obtain⟨rfl,rfl⟩:=bQ he;obtain⟨hN,_⟩:=r.ud (show(S.gh L).V id=av from hver)
      obtain⟨b,hv,hL⟩:=h.uU r hver hc;obtain⟨b',cur,T,hL',hh,hr,hE⟩:=h.tQ hN hc;rw[hL]at hL';simp only[Value.pointer.injEq,Qf,Addr.mk.injEq]at hL';obtain⟨rfl,_⟩:=hL';have hcl:cur.size=cs.length:=by have:=hr.1;simpa using this
      have hrun:=Im (P:=P) ho hi hv hh hs (by omega) rz.2
      obtain⟨h2,hs2,hg⟩:=h.uQ (w':=w.setRow b (cur.toList.take off++(a.eval z).cells.toList++cur.toList.drop (off+i.size)).toArray) hN ⟨av,.box (iW cs off (z'.val S).cells)⟩ (L id) (.inl ⟨hver.symm,rfl,by rw[hc];rfl⟩) rfl rfl rfl (by simp)
       (fun k hk hne=>setRow_other w b k _ (fun ek=>hne (by rw[hc];rfl) (by rw[hL,ek];rfl)))
       (fun k _ hk=> .inl ⟨by rw[hc];rfl,hk⟩)
       (fun hs2 hg=>⟨b,_,T,hL,setRow_heap w b cur _ T _ hh,hE,by
        have:=(hr.iW rz.1 off).mono hs2 hg
        simpa[hs]using this⟩)
      exact⟨_,_,_,undef,hrun,.inr ⟨rfl,rfl⟩,.undef,h2⟩
     ·cases he
    ·cases he
   ·cases he
  ·rename_i id av k j off e;rw[e]at r;have rz1:=rz.1.nz;have hl1:((z'.val S).cells.map nz).length=i.size:=by simpa using hl
   split at he
   ·rename_i hver;split at he
    ·rename_i e0 k' es hc;split at he
     ·rename_i hk;subst hk;split at he
      ·rename_i c hcj;split at he
       ·rename_i hle;obtain⟨rfl,rfl⟩:=bQ he;obtain⟨hN,hv⟩:=r.Mz (show(S.gh L).V id=av from hver)
        obtain⟨vs,hown,hk,hr⟩:=h.k8 hN hc;have hj:j<es.length:=(Qw.1 hcj).1;rcases hown.2 with⟨hL,h0⟩|⟨g,cap,cur,hL,hb1,hh,hnc,hcm,hcs,htake⟩
        ·omega
        rw[show(S.gh L).L id=L id from rfl,hL]at hv
        simp only[cp,Qe]at hv;have hck:c.length=k:=hk c (Q8 hcj)
        have hjk:j*k+k<=es.length*k:=by
         have:=Qq63 k (show j+1<=es.length by omega)
         rw[Qq73]at this;omega
        have hvl:vs.length=es.length*k:=hown.1;have hcapk:es.length*k<=cap*k:=Qq63 _ hnc;have hrun:=Im (P:=P) ho hi hv hh hs (by omega) rz.2
        have hsl:(iW c off ((z'.val S).cells.map nz)).length=k:=by simp[iW,hl1];omega
        have hk2:∀u∈es.set j (iW c off ((z'.val S).cells.map nz)),u.length=k:=by
         intro u hu;rcases List.mem_or_eq_of_mem_set hu with hu|hu
         ·exact hk u hu
         ·rw[hu,hsl]
        have hz2:((z'.val S).cells.map nz).length=(a.eval z).cells.toList.length:=rz1.1.symm
        have hfl:(es.set j (iW c off ((z'.val S).cells.map nz))).flatten=iW es.flatten (j*k+off) ((z'.val S).cells.map nz):=by
         rw[E3 es k j _ hk hsl hj,hsl];unfold iW;rw[hl1];exact XT es.flatten c ((z'.val S).cells.map nz) k (j*k) off i.size hck (by rw[rL es k hk];exact hjk) hl1 (by omega) (zP es k j c hk hcj)
        have hset:(w.setRow g (cur.toList.take (j*k+off)++(a.eval z).cells.toList++cur.toList.drop (j*k+off+i.size)).toArray).ownsRow (gH E (L id)) e0 k (L id) (es.set j (iW c off ((z'.val S).cells.map nz))).length (vs.take (j*k+off)++(a.eval z).cells.toList++vs.drop (j*k+off+i.size)):=by
         refine⟨by simp[hvl,hs];omega,.inr ⟨g,cap,_,by rw[hL];simp,hb1,setRow_heap w g cur _ e0 _ hh,by simpa using hnc,hcm,by simp[hcs,hs];omega,?_⟩⟩
         simp only[QY];rw[<-htake];simpa using KY cur.toList (a.eval z).cells.toList (j*k+off) i.size (es.length*k) (by simpa using hs) (by omega) (by simp[hcs];omega)
        obtain⟨h2,hs2,hg⟩:=h.uQ (w':=w.setRow g (cur.toList.take (j*k+off)++(a.eval z).cells.toList++cur.toList.drop (j*k+off+i.size)).toArray) hN ⟨av,.row e0 k (es.set j (iW c off ((z'.val S).cells.map nz)))⟩ (L id) (.inl ⟨hver.symm,rfl,by rw[hc];rfl⟩) rfl rfl rfl (by simp)
         (fun q hq hne=>setRow_other w g q _ (fun ek=>hne (by rw[hc];rfl) (by rw[hL,ek];rfl)))
         (fun q _ hq=> .inl ⟨by rw[hc];rfl,hq⟩)
         (fun hs2 hg=>⟨_,hset,hk2,by
          rw[hfl];have:=(hr.iW rz1 (j*k+off)).mono hs2 hg
          simpa[hs]using this⟩)
        exact⟨_,_,_,undef,hrun,.inr ⟨rfl,rfl⟩,.undef,h2⟩
       ·cases he
      ·cases he
     ·cases he
    ·cases he
   ·cases he
  ·cases he
 ·cases he
end
end
section
open Go.RowKit
section
variable {P : Program} {E : En} {S : St} {a : Act} {w : World} {L : Nat -> Value} {o : Oper} {x : PV} {wr : Option (Nat × gp)} {Γ : pM} {nid : Nat}
theorem CX(h:Rel E S a w L){y:Option Operand}{y':Option bq}(hy:y.mapM bB=some y'){d n:Int}(hn:uj S y' d=some n):
  (y=none/\n=d)\/∃z k,y=some z/\a.eval z= .int k n:=by
 cases y with
 |none=>
  simp at hy;subst hy;simp only[uj,Qf]at hn;exact .inl ⟨rfl,hn.symm⟩
 |some z=>
  simp only[Option.mapM_some,Option.map_eq_map,Qb]at hy;obtain⟨z',hz,rfl⟩:=hy;have r:=h.iO hz;simp only[uj]at hn;split at hn
  ·rename_i k m e;rw[e]at r;injection hn with hn
   subst hn;exact .inr ⟨z,k,rfl,r.fU⟩
  ·cases hn
theorem vn{α:Type}(k:Nat):∀(m:Nat) (fs:List (List α)),(∀u∈fs,u.length=k)->(fs.take m).flatten=fs.flatten.take (m*k)
 |0,fs,_=>by simp
 |m+1,[],_=>by simp
 |m+1,u::us,hf=>by
  have hu:u.length=k:=hf u (by simp)
  simp only[List.take_succ_cons,List.flatten_cons,vn k m us (fun q hq=>hf q (by simp[hq]))]
  rw[Qq73,Nat.one_mul,Nat.add_comm,<-hu,List.take_length_add_append]
theorem zO{α:Type}(k:Nat):∀(m:Nat) (fs:List (List α)),(∀u∈fs,u.length=k)->(fs.drop m).flatten=fs.flatten.drop (m*k)
 |0,fs,_=>by simp
 |m+1,[],_=>by simp
 |m+1,u::us,hf=>by
  have hu:u.length=k:=hf u (by simp)
  simp only[List.drop_succ_cons,List.flatten_cons,zO k m us (fun q hq=>hf q (by simp[hq]))]
  rw[Qq73,Nat.one_mul,Nat.add_comm,<-hu,List.drop_length_add_append]
theorem JQ{t e:TypeId}{y:Operand}{lo hi:Option Operand}{i:TypeInfo}{ad:Option Addr}{n c:Nat}{l h:Int}(ho:o.op= .slice t y lo hi none)(ht:P.underlying t=some (.slice e))(hi':P.info? e=some i)
  (hv:a.eval y= .slice ad n c) (hlo:(lo=none/\l=0)\/∃z k,lo=some z/\a.eval z= .int k l) (hhi:(hi=none/\h=n)\/∃z k,hi=some z/\a.eval z= .int k h) (h0:0<=l) (h1:l<=h) (h2:h<=n) (h3:n<=c):
  (execOp a.eval o).run P w= .ok (.value (.slice (if c=l.toNat then ad else ad.map (·.add (l.toNat*i.size))) (h.toNat - l.toNat) (c - l.toNat))) w:=by
 have e1:0<=h:=by omega
 have e2:h<=(c:Int):=by omega
 have e3:l<=((h.toNat:Nat):Int):=by omega
 rcases hlo with⟨rfl,rfl⟩|⟨z,k,rfl,hz⟩<;>rcases hhi with⟨rfl,rfl⟩|⟨z2,k2,rfl,hz2⟩<;>
  simp[execOp,Instr.sliceAt,Instr.slice,run_underlying ht,Instr.sliceBounds,Instr.sliceBound,asIntOf,sizeOf,typeInfo, *]<;>omega
theorem ahD(h:Rel E S a w L){t e:TypeId}{y:Operand}{lo hi:Option Operand}{y':bq}{lo' hi':Option bq}{i:TypeInfo}(ho:o.op= .slice t y lo hi none)(ht:P.underlying t=some (.slice e))(hi0:P.info? e=some i)
  (hy:bB y=some y') (hlo:lo.mapM bB=some lo') (hhi:hi.mapM bB=some hi') (he:exec Γ nid S (.Ic i.size y' lo' hi')=some (x,wr)):Good P E S a w o x wr:=by
 have r:=h.iO hy;simp only[exec]at he;split at he
 ·rename_i es e0;rw[e0]at r;split at he
  ·rename_i hall;have hall':∀u∈es,u.length=i.size:=fun u hu=>by have:=QH.1 hall u hu;simpa using this
   split at he
   ·rename_i l hh el eh;split at he
    ·rename_i hb;obtain⟨hb0,hb1,hb2⟩:=hb;obtain⟨rfl,rfl⟩:=bQ he;have hl:=CX h hlo (d:=0) (n:=l) (by unfold uj;exact el)
     have hh':=CX h hhi (d:=(es.length:Int)) (n:=hh) (by unfold uj;exact eh)
     have hlen:((es.take hh.toNat).drop l.toNat).length=hh.toNat - l.toNat:=by simp;omega
     rcases r.Fq with⟨hv,h0⟩|⟨ad,c,k,vs,hv,hk,hr,hc,hn,hm⟩
     ·subst h0;refine Good.pure h (JQ (n:=0) ho ht hi0 hv hl (by simpa using hh') hb0 hb1 (by simpa using hb2) (QI _)) ?_
      have e1:hh=0:=by simp at hb2;omega
      have e2:l=0:=by omega
      subst e1 e2;simpa using bm.slnil
     ·refine Good.pure h (JQ ho ht hi0 hv hl hh' hb0 hb1 hb2 hn) ?_;rw[<-hlen];have hkk:∀u∈(es.take hh.toNat).drop l.toNat,u.length=i.size:=fun u hu=>hall' u (Q1 (Q2 hu))
      have hfl:((es.take hh.toNat).drop l.toNat).flatten=(es.flatten.take (hh.toNat*i.size)).drop (l.toNat*i.size):=by
       have t1:∀(m:Nat) (fs:List (List PV)),(∀u∈fs,u.length=i.size)->(fs.take m).flatten=fs.flatten.take (m*i.size):=by
        intro m
        induction m with
        |zero=>intro fs _;simp
        |succ m ih=>
         intro fs hf
         cases fs with
         |nil=>simp
         |cons u us=>
          have hu:u.length=i.size:=hf u (by simp)
          simp only[List.take_succ_cons,List.flatten_cons,ih us (fun q hq=>hf q (by simp[hq]))]
          rw[Qq73,Nat.one_mul,Nat.add_comm,<-hu,List.take_length_add_append]
       have t2:∀(m:Nat) (fs:List (List PV)),(∀u∈fs,u.length=i.size)->(fs.drop m).flatten=fs.flatten.drop (m*i.size):=by
        intro m
        induction m with
        |zero=>intro fs _;simp
        |succ m ih=>
         intro fs hf
         cases fs with
         |nil=>simp
         |cons u us=>
          have hu:u.length=i.size:=hf u (by simp)
          simp only[List.drop_succ_cons,List.flatten_cons,ih us (fun q hq=>hf q (by simp[hq]))]
          rw[Qq73,Nat.one_mul,Nat.add_comm,<-hu,List.drop_length_add_append]
       rw[t2 _ _ (fun u hu=>hall' u (Q1 hu)),t1 _ _ hall']
      have hr2:=(hr.take (hh.toNat*i.size)).drop (l.toNat*i.size);rw[<-hfl]at hr2
      by_cases hcl:c=l.toNat
      ·have hnil:(es.take hh.toNat).drop l.toNat=[]:=Qq67 (by rw[hlen];omega)
       rw[Qr hcl,hnil];exact .sl [] ad _ i.size [] (by simp) (by simp) (fun j u hu=>by simp at hu) (fun j p u hp=>by simp at hp) (QS _) (by omega)
      ·rw[Qs hcl];simp only[Qe];refine .sl _ _ _ i.size _ hkk hr2.1 (fun j u hu=> ?_) hr2.2 (by rw[hlen];omega) (by omega)
       rw[add_add,Ju];have h4:=ig hu;rw[Qq68]at h4;split at h4
       ·exact hc _ u h4
       ·cases h4
    ·cases he
   ·cases he
  ·cases he
 ·rename_i id av e0;rw[e0]at r;split at he
  ·rename_i hver;split at he
   ·rename_i e1 k' es hcc;split at he
    ·rename_i hkk;subst hkk;split at he
     ·rename_i l hh el eh;split at he
      ·rename_i hb;obtain⟨hb0,hb1,hb2⟩:=hb;obtain⟨rfl,rfl⟩:=bQ he;obtain⟨hN,hv⟩:=r.nN (show(S.gh L).V id=av from hver)
       obtain⟨vs,hown,hk,hr⟩:=h.k8 hN hcc;have hl:=CX h hlo (d:=0) (n:=l) el;have hh':=CX h hhi (d:=(es.length:Int)) (n:=hh) eh
       have hL:∃ad c,L id= .slice ad es.length c/\es.length<=c:=by
        rcases hown.2 with⟨hL,h0⟩|⟨g,cap,cur,hL,_,_,hnc,_⟩
        ·exact⟨none,0,by rw[hL,h0],by omega⟩
        ·exact⟨_,cap,hL,hnc⟩
       obtain⟨ad,c,hL,hc⟩:=hL;rw[show(S.gh L).L id=L id from rfl,hL]at hv
       refine Good.pure h (JQ ho ht hi0 hv hl hh' hb0 hb1 hb2 hc) ?_;refine .view _ _ _ _ _ _ _ hN (Nat.le_of_eq hver.symm) (fun _=>⟨ad,es.length,c,hL,by omega,hc,rfl,?_⟩)
       by_cases h0:c=l.toNat
       ·rw[Qr h0]
        by_cases h1:l.toNat=0
        ·right;rw[h1];cases ad<;>simp[Addr.add]
        ·left;exact⟨by omega,h1,fun e=>e⟩
       ·rw[Qs h0];right;rfl
      ·cases he
     ·cases he
    ·cases he
   ·cases he
  ·cases he
 ·rename_i id av k0 lo0 n0 e0;rw[e0]at r;split at he
  ·rename_i hver;split at he
   ·rename_i e1 k' es hcc;split at he
    ·rename_i hkk;obtain⟨hk1,hk2⟩:=hkk;subst hk2;split at he
     ·rename_i l hh el eh;split at he
      ·rename_i hb;obtain⟨hb0,hb1,hb2⟩:=hb;obtain⟨rfl,rfl⟩:=bQ he;obtain⟨hN,ad,c,hv,a0,m0,c0,hL,q1,q2,q3,q4⟩:=r.As (show(S.gh L).V id=av from hver)
       have hl:=CX h hlo (d:=0) (n:=l) el;have hh':=CX h hhi (d:=(n0:Int)) (n:=hh) eh;refine Good.pure h (JQ ho ht hi0 hv hl hh' hb0 hb1 hb2 (by omega)) ?_
       refine .view _ _ _ _ _ _ _ hN (Nat.le_of_eq hver.symm) (fun _=>⟨a0,m0,c0,hL,by omega,q2,by omega,?_⟩)
       by_cases h0:c=l.toNat
       ·rw[Qr h0]
        by_cases h1:lo0+l.toNat=0
        ·right;rcases q4 with q4|q4
         ·omega
         ·rw[q4];have e1:lo0=0:=by omega
          have e2:l.toNat=0:=by omega
          rw[e1,e2]
        ·left;refine⟨by omega,h1,fun e=> ?_⟩
         rcases q4 with q4|q4
         ·exact q4.2.2 e
         ·rw[q4]at e;cases a0<;>first|rfl|cases e
       ·rw[Qs h0];rcases q4 with q4|q4
        ·left;refine⟨by omega,by omega,fun e=>q4.2.2 ?_⟩
         cases ad<;>first|rfl|cases e
        ·right;rw[q4];cases a0<;>simp[add_add,Qq73]
      ·cases he
     ·cases he
    ·cases he
   ·cases he
  ·cases he
 ·cases he
theorem Kq{base:Nat}{t ty e:TypeId}{i:TypeInfo}{size:Nat}(ht:P.underlying t=some (.slice e))(hi:P.info? e=some i)
  {v:Value} {n:Nat} {xs:List Value} (hown:w.ownsRow base e size v n xs) (c:Nat):(Builtin.append_ #[t,t] ty #[v,.slice none 0 c]).run P w= .ok v w:=by
 rcases hown.2 with⟨rfl,rfl⟩|⟨g,cap,cur,rfl,_,_,hnc,_⟩
 ·simp[Builtin.append_,run_underlying ht,sizeOf,typeInfo,hi,Builtin.lenOf,Builtin.firstCells]
 ·simp[Builtin.append_,run_underlying ht,sizeOf,typeInfo,hi,Builtin.lenOf,Builtin.firstCells,hnc,storeCells]
theorem Rel.Lh(h:Rel E S a w L){y:PV}{v:Value}{es:List (List PV)}(r:bm w (bu E S L) (S.gh L) y v)(he:lq S y=some es):
  (v= .slice none 0 0/\es=[])\/∃(ad:Addr) (c:Nat) (vs:List Value),v= .slice (some ad) es.length c/\bj w (bu E S L) (S.gh L) es.flatten vs/\(∀(i:Nat) (u:Value),vs[i]?=some u->w.cell? (ad.add i)=some u):=by
 unfold lq at he;split at he
 ·injection he with he;subst he;exact .inl ⟨r.rG,rfl⟩
 ·injection he with he;subst he
  rcases r.Fq with⟨hv,h0⟩|⟨ad,c,k,vs,hv,hk,hr,hc,_⟩
  ·exact .inl ⟨hv,h0⟩
  ·exact .inr ⟨ad,c,vs,hv,hr.mono (dW.of fun _ hm=>hm) (dw.le _),fun i u hu=>(hc i u hu).1⟩
 ·rename_i id av;split at he
  ·rename_i hver;split at he
   ·rename_i hc;injection he with he;subst he
    obtain⟨hN,hv⟩:=r.nN (show(S.gh L).V id=av from hver)
    obtain⟨vs,hown,hk,hr⟩:=h.k8 hN hc;rcases hown.2 with⟨hL,h0⟩|⟨g,cap,cur,hL,_,hh,_,_,_,htake⟩
    ·exact .inl ⟨by rw[hv];exact hL,Qq67 h0⟩
    ·refine .inr ⟨⟨g,0,none⟩,cap,vs,by rw[hv];exact hL,hr,fun i u hu=> ?_⟩
     exact hown.cells (g:=g) (by rw[hL];rfl) i u hu
   ·cases he
  ·cases he
 ·rename_i id av k lo n;split at he
  ·rename_i hver;split at he
   ·rename_i e1 k' es0 hc;split at he
    ·rename_i hb;subst hb;injection he with he;subst he
     obtain⟨hN,ad,c,hv,hat⟩:=r.As (show(S.gh L).V id=av from hver)
     have hb:=h.JI hN hc hat;obtain⟨a0,m0,c0,hL,q1,q2,q3,q4⟩:=hat;obtain⟨vs,hown,hk,hr⟩:=h.k8 hN hc;have hL:L id= .slice a0 m0 c0:=hL;have hlen:((es0.drop lo).take n).length=n:=by simp;omega
     rcases hown.2 with⟨hL',h0⟩|⟨g,cap,cur,hL',_,hh,_,_,_,htake⟩
     ·have:es0=[]:=Qq67 h0;subst this;rw[hL']at hL;injection hL with e1 e2 e3
      subst e1 e2 e3;left;have hn0:n=0:=by omega
      have hl0:lo=0:=by omega
      subst hn0 hl0;rcases q4 with q4|q4
      ·exact absurd rfl q4.2.1
      ·subst q4;rw[hv,q3];exact⟨by simp,by simp⟩
     ·rw[hL']at hL;injection hL with e1 e2 e3
      subst e1 e2 e3
      have hfl:((es0.drop lo).take n).flatten=(es0.flatten.drop (lo*k')).take (n*k'):=by
       rw[vn k' n _ (fun u hu=>hk u (Q2 hu)),zO k' lo _ hk]
      have hr2:=(hr.drop (lo*k')).take (n*k');rw[<-hfl]at hr2
      by_cases hn0:n=0
      ·subst hn0
       cases ad with
       |none=>
        rcases q4 with q4|q4
        ·cases q4.2.2 rfl
        ·cases q4
       |some ad=>
        right;exact⟨ad,c,[],by rw[hv];simp,by simpa using bj.nil,fun i u hu=>by simp at hu⟩
      ·rcases q4 with q4|q4
       ·omega
       ·right;refine⟨⟨g,lo*k',none⟩,c,_,by rw[hv,hlen,q4];simp[add_mid],hr2,fun i u hu=> ?_⟩
        rw[add_mid];refine qW hh ?_;rw[Qq68]at hu;split at hu
        ·have hu:=ig hu;rw[<-htake,Qq68]at hu;split at hu
         ·exact hu
         ·cases hu
        ·cases hu
    ·cases he
   ·cases he
  ·cases he
 ·cases he
theorem nn{v:Value}{ad:Option Addr}{n c:Nat}(h:v= .slice ad n c):v.ownBlock=cp v:=by subst h;cases ad<;>rfl
theorem DJ{P:Program}(w:World)(base:Nat)(t ty e:TypeId)(i:TypeInfo)(z:Value)(size bytes:Nat)(ht:P.underlying t=some (.slice e))(hi:P.info? e=some i)(hz:i.zero=some z)
  (hsize:i.size=size) (hby:i.bytes=bytes) (hsz:0<size)
  (v:Value) (n:Nat) (xs:List Value) (hown:w.ownsRow base e size v n xs)
  (a:Addr) (m c:Nat) (news:List Value) (hl:news.length=m*size) (hnews:∀j u,news[j]?=some u->w.cell? (a.add j)=some u) (h1:∀u∈news,u.oneCell'=true)
  (h63:n+m<=maxLen) (hbytes:(n+m)*bytes<=140737488355328) {v':Value} {w':World} (hrun:(Builtin.append_ #[t,t] ty #[v,.slice (some a) m c]).run P w= .ok v' w'):w.drawn<=w'.drawn:=by
 subst hsize;subst hby;have hsmall:n+m<=9223372036854775807:=by simp only[maxLen]at h63;omega
 have fin:∀{u:Value} {W:World},(Builtin.append_ #[t,t] ty #[v,.slice (some a) m c]).run P w= .ok u W->w.drawn<=W.drawn->w.drawn<=w'.drawn:=fun h hd=>by
  rw[h]at hrun;injection hrun with _ h2
  rw[<-h2];exact hd
 rcases hown.2 with⟨rfl,rfl⟩|⟨g,cap,cur,rfl,hbg,hg,hnc,hcm,hcs,htake⟩
 ·by_cases hm:m=0
  ·subst hm;have hn:news=[]:=Qq67 (by simpa using hl)
   refine fin (u:= .slice none 0 0) (W:=w) ?_ (QI _);simp[Builtin.append_,run_underlying ht,sizeOf,typeInfo,hi,Builtin.lenOf,Builtin.firstCells,loadCells,loadCellsFrom]
  ·exact fin (run_append_nil (P:=P) w t ty e i z ht hi hz a m c news hl hnews (by omega) (by omega) (by have hb:=hbytes;simp only[Nat.zero_add]at hb;omega)) (Nat.le_succ _)
 ·by_cases hroom:n+m<=cap
  ·have hfit:n*i.size+news.length<=cur.size:=by rw[hl,hcs,<-Qq73];exact Qq63 _ hroom
   exact fin (run_append_room (P:=P) w t ty e i ht hi g n cap cur hg a m c news hl hnews h1 hroom hfit) (QI _)
  ·have holds:∀j u,xs[j]?=some u->w.cell? ((⟨g,0,none⟩:Addr).add j)=some u:=hown.cells (g:=g) rfl;exact fin (run_append_grow (P:=P) w t ty e i z ht hi hz ⟨g,0,none⟩ n cap xs hown.1 holds a m c news hl hnews (by omega) (by omega) (growslice_fits (by omega) hbytes)) (Nat.le_succ _)
theorem adi(h:Rel E S a w L)(hn:nid<S.N){t e:TypeId}{y z:Operand}{y' z':bq}{i:TypeInfo}{zv:Value}(ho:o.op= .call {callee:= .builtin .append,args:=#[y,z],argTypes:=#[t,t]})(ht:P.underlying t=some (.slice e))(hi:P.info? e=some i)
  (hzv:i.zero=some zv) (hzs:zv.cells.size=i.size) (hsz:0<i.size) (hy:bB y=some y') (hz:bB z=some z') (he:exec Γ nid S (.c6 false e i.size i.bytes y' z')=some (x,wr)):Good P E S a w o x wr:=by
 have ry:=h.iO hy;have rz:=h.iO hz
 have hexec:∀(r:Result Value),(Builtin.append_ #[t,t] o.type #[a.eval y,a.eval z]).run P w=r->(execOp a.eval o).run P w=r.andThen fun v w'=> .ok (.value v) w':=by
  intro r hr;simp[execOp,ho,resolve,invoke,builtin,hr]
 simp only[exec,Jw]at he;split at he
 ·rename_i news hnews;split at he
  ·rename_i hall;have hall':∀u∈news,u.length=i.size/\u.all PV.one=true:=fun u hu=>by have:=QH.1 hall u hu;simpa using this
   have hnl:news.flatten.length=news.length*i.size:=rL news i.size (fun u hu=>(hall' u hu).1)
   have hone:∀{vs:List Value},bj w (bu E S L) (S.gh L) news.flatten vs->∀u∈vs,u.oneCell'=true:=by
    intro vs hr u hu;obtain⟨q,hq,rfl⟩:=List.mem_iff_getElem.1 hu;have hx:q<news.flatten.length:=by rw[<-hr.1];exact hq
    have hm:news.flatten[q]∈news.flatten:=Q0 hx;obtain⟨el,hel,hmem⟩:=List.mem_flatten.1 hm;exact((hr.2 q _ _ (Qv hx) (Qv hq)).one (QH.1 (hall' el hel).2 _ hmem)).1
   have main:∀(id0:Nat) (hid:id0<S.N) (es:List (List PV)) (ver':Nat) (v:Value) (vs:List Value),a.eval y=v->w.ownsRow (gH E v) e i.size v es.length vs->bj w (bu E S L) (S.gh L) es.flatten vs->
     (∀u∈es,u.length=i.size)->(S.H id0).av<ver'->(∀b,v.ownBlock=some b->(S.H id0).c.live=true/\cp (L id0)=some b)->es.length+news.length<=maxLen->(es.length+news.length)*i.bytes<=140737488355328->
     Good P E S a w o (.own id0 ver') (some (id0,⟨ver',.row e i.size (es++news)⟩)):=by
    intro id0 hid es ver' v vs hv hown hr hk hver hblk hmax hby
    have hk2:∀u∈es++news,u.length=i.size:=fun u hu=>by
     rcases Qz.1 hu with hu|hu
     ·exact hk u hu
     ·exact(hall' u hu).1
    have hrun:∃v' w' us,(Builtin.append_ #[t,t] o.type #[a.eval y,a.eval z]).run P w= .ok v' w'/\w'.ownsRow (gH E v) e i.size v' (es.length+news.length) (vs++us)/\w.grownBy w' v.ownBlock/\
      (v'.ownBlock=v.ownBlock\/v'.ownBlock=some w.heap.size)/\bj w (bu E S L) (S.gh L) news.flatten us/\w.drawn<=w'.drawn:=by
     rcases h.Lh rz hnews with⟨hvz,hnil⟩|⟨ad,c,us,hvz,hrz,hcz⟩
     ·subst hnil;refine⟨v,w,[],by rw[hv,hvz];exact Kq ht hi hown 0,by simpa using hown,World.grownBy.refl w _,.inl rfl,bj.nil,QI _⟩
     ·have hus:us.length=news.length*i.size:=by rw[hrz.1,hnl]
      obtain⟨v',w',h1,h2,h3,_,h5⟩:=run_append_own_at (P:=P) w (gH E v) t o.type e i zv i.size i.bytes ht hi hzv rfl rfl hzs hsz v es.length vs hown ad news.length c us hus hcz (hone hrz) hmax hby (QK (Nc E v) h.fr.size);exact⟨v',w',us,by rw[hv,hvz];exact h1,h2,h3,h5,hrz,DJ w (gH E v) t o.type e i zv i.size i.bytes ht hi hzv rfl rfl hsz v es.length vs hown ad news.length c us hus hcz (hone hrz) hmax hby h1⟩
    obtain⟨v',w',us,hr1,hown',hgr,hat,hru,hdrw⟩:=hrun
    have hv':∃ad n c,v'= .slice ad n c:=by
     rcases hown'.2 with⟨rfl,_⟩|⟨g,cap,cur,rfl,_⟩
     ·exact⟨_,_,_,rfl⟩
     ·exact⟨_,_,_,rfl⟩
    obtain⟨ad',n',c',hv'⟩:=hv'
    have hvb:∃ad n c,v= .slice ad n c:=by
     rcases hown.2 with⟨rfl,_⟩|⟨g,cap,cur,rfl,_⟩
     ·exact⟨_,_,_,rfl⟩
     ·exact⟨_,_,_,rfl⟩
    obtain⟨ad0,n0,c0,hv0⟩:=hvb
    have hown':w'.ownsRow (gH E v') e i.size v' (es.length+news.length) (vs++us):=by
     rcases hat with hat|hat
     ·rw[B6 (v:=v') (v':=v) (by rw[<-nn hv',<-nn hv0,hat])]
      exact hown'
     ·refine⟨hown'.1,?_⟩;rcases hown'.2 with hnil|⟨g,cap,cur,e1,e2,e3⟩
      ·exact .inl hnil
      ·rw[nn hv']at hat;have hg:g=w.heap.size:=by rw[e1]at hat;simpa[cp]using hat
       refine .inr ⟨g,cap,cur,e1,?_,e3⟩;rw[KZ hat h.fr.size,hg];exact h.fr.size
    obtain⟨h2,hs2,hg2⟩:=h.uQ (w':=w') (hdr:=hdrw) hid ⟨ver',.row e i.size (es++news)⟩ v' (.inr hver) hgr.os hgr.tape hgr.output hgr.size
     (fun b hb hne=>hgr.block b hb (fun eb=>by
      obtain⟨q1,q2⟩:=hblk b eb.symm
      exact hne q1 q2))
     (fun b _ hb=>by
      rw[<-nn hv']at hb;rcases hat with hat|hat
      ·rw[hat]at hb;exact .inl (hblk b hb)
      ·rw[hat]at hb;injection hb with hb
       exact .inr (by omega))
     (fun hs2 hg2=>⟨vs++us,by simpa using hown',hk2,by simp only[List.flatten_append];exact(hr.append hru).mono hs2 hg2⟩)
    refine⟨_,w',_,v',by rw[hexec _ hr1];rfl,.inl rfl,?_,h2⟩
    subst hv';exact .own _ _ _ _ _ hid (by simp[St.gh,St.fL,cq]) (fun _=>by simp[St.gh,St.fL,cq])
   split at he
   ·rename_i ey;rw[ey]at ry;split at he
    ·rename_i hb;obtain⟨rfl,rfl⟩:=bQ he;have:=main nid hn [] ((S.H nid).av+1) (.slice none 0 0) [] ry.rG (World.ownsRow_nil w _ _ _) bj.nil (by simp) (Nat.lt_succ_self _) (fun b hb=>by simp[Value.ownBlock]at hb) (by simpa using hb.2) (by simpa using hb.1)
     simpa using this
    ·cases he
   ·rename_i id av ey;rw[ey]at ry;split at he
    ·rename_i hver;split at he
     ·rename_i e' k' es hc;split at he
      ·rename_i hb;obtain⟨rfl,rfl,hby,hmax⟩:=hb;obtain⟨rfl,rfl⟩:=bQ he;obtain⟨hN,hv⟩:=ry.nN (show(S.gh L).V id=av from hver)
       obtain⟨vs,hown,hk,hr⟩:=h.k8 hN hc
       have hLs:∃ad n c,L id= .slice ad n c:=by
        rcases hown.2 with⟨hL,_⟩|⟨g,cap,cur,hL,_⟩
        ·exact⟨_,_,_,hL⟩
        ·exact⟨_,_,_,hL⟩
       obtain⟨ad0,n0,c0,hL0⟩:=hLs;exact main id hN es (av+1) (L id) vs hv hown hr hk (by omega) (fun b hb=>⟨by rw[hc];rfl,by rw[nn hL0]at hb;exact hb⟩) hmax hby
      ·cases he
     ·cases he
    ·cases he
   ·cases he
  ·cases he
 ·cases he
theorem O7(z:Array Value)(n:Nat):(Builtin.zeroCells z n).toList=(List.replicate n z.toList).flatten:=by
 unfold Builtin.zeroCells
 by_cases hz:0<z.size
 ·exact IQ z hz n
 ·have h0:z.size=0:=by omega
  have hz:z=#[]:=Array.eq_empty_of_size_eq_zero h0;subst hz;simp
theorem aeK(h:Rel E S a w L){t e:TypeId}{y:Operand}{y':bq}{i:TypeInfo}{zc:List PV}(ho:o.op= .call {callee:= .builtin .clear,args:=#[y],argTypes:=#[t]})(ht:P.underlying t=some (.slice e))(hi:P.info? e=some i)
  (hz:vT P e=some zc) (hy:bB y=some y') (he:exec Γ nid S (.clear i.size zc y')=some (x,wr)):Good P E S a w o x wr:=by
 have r:=h.iO hy;simp only[exec]at he;split at he
 case h_2=>cases he
 rename_i id av k0 lo n e0;rw[e0]at r;split at he
 case isFalse=>cases he
 rename_i hver;split at he
 case h_2=>cases he
 rename_i e1 k' es hc;split at he
 case isFalse=>cases he
 rename_i hb;obtain⟨hk1,hk2,hk3,hone⟩:=hb;subst hk2;subst hk1;obtain⟨rfl,rfl⟩:=bQ he;obtain⟨hN,ad,c,hv,hat⟩:=r.As (show(S.gh L).V id=av from hver)
 have hlen:=h.JI hN hc hat;obtain⟨a0,m0,c0,hL,q1,q2,q3,q4⟩:=hat;have hL:L id= .slice a0 m0 c0:=hL;obtain⟨vs,hown,hk,hr⟩:=h.k8 hN hc;obtain⟨i',v,hi',hv0,hs,hrz⟩:=C5 (P:=P) (w:=w) (M:=bu E S L) (G:=S.gh L) hz;rw[hi]at hi';injection hi' with hi'
 subst hi'
 have hkz:∀u∈es.take lo++List.replicate n (zc.map nz)++es.drop (lo+n),u.length=i.size:=by
  intro u hu;simp only[Qz]at hu;rcases hu with(hu|hu)|hu
  ·exact hk u (Q1 hu)
  ·rw[(List.mem_replicate.1 hu).2,QC,hk3]
  ·exact hk u (Q2 hu)
 have hlz:(es.take lo++List.replicate n (zc.map nz)++es.drop (lo+n)).length=es.length:=by simp;omega
 have hfl:(es.take lo++List.replicate n (zc.map nz)++es.drop (lo+n)).flatten=es.flatten.take (lo*i.size)++(List.replicate n (zc.map nz)).flatten++es.flatten.drop (lo*i.size+n*i.size):=by
  rw[List.flatten_append,List.flatten_append,vn i.size lo es hk,zO i.size (lo+n) es hk,Qq73]
 have hrn:bj w (bu E S L) (S.gh L) (List.replicate n (zc.map nz)).flatten (List.replicate n v.cells.toList).flatten:=xH hrz.nz n;have hnl:(List.replicate n v.cells.toList).flatten.length=n*i.size:=by rw[rL _ i.size (fun u hu=>by rw[(List.mem_replicate.1 hu).2];simpa using hs)];simp
 by_cases hn0:n=0
 ·subst hn0;have hsame:es.take lo++List.replicate 0 (zc.map nz)++es.drop (lo+0)=es:=by simp
  rw[hsame]
  obtain⟨h2,hs2,hg⟩:=h.uQ (w':=w) hN ⟨av,.row e1 i.size es⟩ (L id) (.inl ⟨hver.symm,rfl,by rw[hc];rfl⟩) rfl rfl rfl (QI _)
   (fun q hq _=>rfl) (fun q _ hq=> .inl ⟨by rw[hc];rfl,hq⟩) (fun hs2 hg=>⟨vs,hown,hk,hr.mono hs2 hg⟩)
  refine⟨_,w,_,.tuple #[],?_,.inl rfl,.eo [] [] rfl (fun j p u hp=>by simp at hp),h2⟩
  cases ad<;>simp[execOp,ho,resolve,invoke,builtin,Builtin.clear_,run_underlying ht,hv]
 ·rcases hown.2 with⟨hL',h0⟩|⟨g,cap,cur,hL',hb1,hh,hnc,hcm,hcs,htake⟩
  ·omega
  rw[hL']at hL;injection hL with e2 e3 e4
  subst e2 e3 e4;rcases q4 with q4|q4
  ·omega
  have hone':∀u∈(List.replicate n v.cells.toList).flatten,u.oneCell'=true:=by
   intro u hu;obtain⟨l,hl,hul⟩:=List.mem_flatten.1 hu;rw[(List.mem_replicate.1 hl).2]at hul;obtain⟨q,hq,rfl⟩:=List.mem_iff_getElem.1 hul;have hx:q<zc.length:=by rw[<-hrz.1];exact hq
   exact((hrz.2 q _ _ (Qv hx) (Qv hq)).one (QH.1 hone _ (Q0 hx))).1
  have hcl:lo*i.size+n*i.size<=cur.size:=by
   rw[hcs,<-Qq73];exact Qq63 _ (by omega)
  have hst:=run_storeCells_at (P:=P) g (lo*i.size) e1 (List.replicate n v.cells.toList).flatten 0 cur w hh (by rw[hnl];omega) hone'
  simp only[Nat.add_zero,hnl]at hst;have hz0:(Builtin.zeroCells v.cells n).toList=(List.replicate n v.cells.toList).flatten:=O7 _ _
  have hset:(w.setRow g (cur.toList.take (lo*i.size)++(List.replicate n v.cells.toList).flatten++cur.toList.drop (lo*i.size+n*i.size)).toArray).ownsRow (gH E (L id)) e1 i.size (L id) (es.take lo++List.replicate n (zc.map nz)++es.drop (lo+n)).length (vs.take (lo*i.size)++(List.replicate n v.cells.toList).flatten++vs.drop (lo*i.size+n*i.size)):=by
   have hvl:vs.length=es.length*i.size:=hown.1;have hle:lo*i.size+n*i.size<=es.length*i.size:=by rw[<-Qq73];exact Qq63 _ hlen
   rw[hlz]
   refine⟨by simp only[QB,List.length_take,List.length_drop,hnl,hvl];omega,.inr ⟨g,cap,_,hL',hb1,setRow_heap w g cur _ e1 _ hh,hnc,hcm,by
    rw[hcs]at hcl;simp only[List.size_toArray,QB,List.length_take,List.length_drop,Array.length_toList,hnl,hcs]
    omega,?_⟩⟩
   rw[<-htake];have hce:es.length*i.size<=cur.size:=by rw[hcs];exact Qq63 _ hnc
   simpa using KY cur.toList (List.replicate n v.cells.toList).flatten (lo*i.size) (n*i.size) (es.length*i.size) hnl hle (by simpa using hce)
  obtain⟨h2,hs2,hg⟩:=h.uQ (w':=w.setRow g (cur.toList.take (lo*i.size)++(List.replicate n v.cells.toList).flatten++cur.toList.drop (lo*i.size+n*i.size)).toArray) hN
   ⟨av,.row e1 i.size (es.take lo++List.replicate n (zc.map nz)++es.drop (lo+n))⟩ (L id) (.inl ⟨hver.symm,rfl,by rw[hc];rfl⟩) rfl rfl rfl (by simp)
   (fun q hq hne=>setRow_other w g q _ (fun ek=>hne (by rw[hc];rfl) (by rw[hL',ek];rfl)))
   (fun q _ hq=> .inl ⟨by rw[hc];rfl,hq⟩)
   (fun hs2 hg=>⟨_,hset,hkz,by
    rw[hfl];have h5:=(((hr.take (lo*i.size)).append hrn).append (hr.drop (lo*i.size+n*i.size))).mono hs2 hg
    exact h5⟩)
  refine⟨_,_,_,.tuple #[],?_,.inl rfl,.eo [] [] rfl (fun j p u hp=>by simp at hp),h2⟩
  have hv':a.eval y= .slice (some ⟨g,lo*i.size,none⟩) n c:=by rw[hv,q4];simp[add_mid]
  have hnn:∃m,n=m+1:=⟨n - 1,by omega⟩
  obtain⟨m,rfl⟩:=hnn;simp[execOp,ho,resolve,invoke,builtin,Builtin.clear_,run_underlying ht,hv',zeroValue,typeInfo,hi,hv0,hz0,hst]
theorem Xj(h:Rel E S a w L){neg:Bool}{t t2 e:TypeId}{y:Operand}{y':bq}(ho:o.op= .binOp (if neg then .neq else .eql) t y (.const (.slice none 0 0)) t2)(ht:P.underlying t=some (.slice e))(hy:bB y=some y')
  (he:exec Γ nid S (.zI neg y')=some (x,wr)):Good P E S a w o x wr:=by
 have r:=h.iO hy
 have key:∀(ad:Option Addr) (n c:Nat),a.eval y= .slice ad n c->(execOp a.eval o).run P w= .ok (.value (.bool (xor neg ad.isNone))) w:=by
  intro ad n c hv;have hc:a.eval (.const (.slice none 0 0))= .slice none 0 0:=rfl;have hq:=run_equal_slice_nil (P:=P) w t e ad n c ht;have hg:∀op,(eqGuard op t y (.const (.slice none 0 0)) (.slice ad n c) (.slice none 0 0)).run P w= .ok () w:=by intro op;cases op<;>simp[eqGuard]
  cases neg
  ·simp only[Qq,Qu]at ho;simp only[execOp,ho,hv,hc,Sem.run_bind,hg,Result.andThen_ok,binOp,hq,Sem.run_pure];simp
  ·simp only[Qt]at ho;simp only[execOp,ho,hv,hc,Sem.run_bind,hg,Result.andThen_ok,binOp,hq,Sem.run_pure];simp
 simp only[exec]at he;split at he
 ·rename_i e0;rw[e0]at r;obtain⟨rfl,rfl⟩:=bQ he;exact Good.pure h (key none 0 0 r.rG) (by cases neg<;>exact .bool _)
 ·split at he
  ·rename_i hes;obtain⟨rfl,rfl⟩:=bQ he;obtain⟨ad,c,hv⟩:=h.Vb r hes;exact Good.pure h (key ad _ c hv) (.gS _)
  ·rename_i u us hes;obtain⟨rfl,rfl⟩:=bQ he;rcases h.Lh r hes with⟨_,h0⟩|⟨ad,c,vs,hv,_⟩
   ·cases h0
   ·exact Good.pure h (key (some ad) _ c hv) (by cases neg<;>exact .bool _)
  ·cases he
end
end
section
open Go.RowKit
section
variable {P : Program} {E : En} {S : St} {a : Act} {w : World} {L : Nat -> Value} {o : Oper} {x : PV} {wr : Option (Nat × gp)} {Γ : pM} {nid : Nat}
theorem XV{t:TypeId}{fs:Array Field}{f g:Field}{k0 k:IntKind}{p q:Int}{s u:ByteArray}(ht:P.underlying t=some (.struct fs))(hfs:fs.toList=[f,g])(hf:P.underlying f.type=some (.int k0))(hg:P.underlying g.type=some .string)
  (h0:f.offset=0) (h1:g.offset=1) (hn0:f.name≠ "_") (hn1:g.name≠ "_") (hst:P.stoodInHeld t=false) (d:Nat):
  (Op.equalIn (d+2) t (.agg #[.int k p,.string s]) (.agg #[.int k q,.string u])).run P w= .ok (decide (p=q)&&decide (s=u)) w:=by
 have hfo:P.fieldsOf t=fs:=by simp[Program.fieldsOf,ht]
 have hi0:(isAgg f.type).run P w= .ok false w:=by simp[isAgg,run_underlying hf]
 have hi1:(isAgg g.type).run P w= .ok false w:=by simp[isAgg,run_underlying hg]
 have p0:∀v u:Value,(part f.type #[v,u] 0).run P w= .ok v w:=fun v u=>by simp[part,hi0]
 have p1:∀v u:Value,(part g.type #[v,u] 1).run P w= .ok u w:=fun v u=>by simp[part,hi1]
 rw[run_equalIn_struct w (d+1) t _ _ (by rw[hfo];exact ht) hst,hfo,hfs]
 have q0:=run_equalIn_int (P:=P) w d f.type k k0 p q hf;have q1:=run_equalIn_string (P:=P) w d g.type s u hg;rw[toList_eq_iff]at q1
 by_cases hpq:p=q
 ·subst hpq;simp[Op.eqFields,hn0,hn1,h0,h1,p0,p1,q0,q1]
  by_cases hsu:s=u<;>simp[hsu]
 ·have:(p==q)=false:=by simp[hpq]
  rw[this]at q0;simp[Op.eqFields,hn0,h0,p0,q0,hpq]
theorem adf(h:Rel E S a w L){neg:Bool}{y z:Operand}{y' z':bq}{t t2:TypeId}(ho:o.op= .binOp (if neg then .neq else .eql) t y z t2)(ht:P.underlying t=some .bool)
  (hy:bB y=some y') (hz:bB z=some z') (he:exec Γ nid S (.Ji neg y' z')=some (x,wr)):Good P E S a w o x wr:=by
 have ry:=h.iO hy;have rz:=h.iO hz;simp only[exec]at he;split at he
 ·rename_i p q e1 e2;obtain⟨rfl,rfl⟩:=bQ he;rw[e1]at ry;rw[e2]at rz;have hv:=ry.og;have hu:=rz.og;have hd:(p==q)=decide (p=q):=by cases p<;>cases q<;>rfl
  have hrun:=run_equalIn_bool (P:=P) w 9999 t p q ht;rw[hd]at hrun;have hgd:∀op,(eqGuard op t y z (.bool p) (.bool q)).run P w= .ok () w:=by intro op;cases op<;>simp[eqGuard]
  refine Good.pure h (v:= .bool (xor neg (decide (p=q)))) ?_ (.bool _);cases neg
  ·simp only[Qq,Qu]at ho;simp only[execOp,ho,hv,hu,Sem.run_bind,hgd,Result.andThen_ok,binOp,Op.equal,Op.maxDepth,Sem.run_pure];rw[hrun];simp
  ·simp only[Qt]at ho;simp only[execOp,ho,hv,hu,Sem.run_bind,hgd,Result.andThen_ok,binOp,Op.equal,Op.maxDepth,Sem.run_pure];rw[hrun];simp
 ·cases he
theorem adg(h:Rel E S a w L){neg:Bool}{y z:Operand}{y' z':bq}{t t2:TypeId}{fs:Array Field}{f g:Field}{k0:IntKind}(ho:o.op= .binOp (if neg then .neq else .eql) t y z t2)(ht:P.underlying t=some (.struct fs))(hfs:fs.toList=[f,g])
  (hf:P.underlying f.type=some (.int k0)) (hg:P.underlying g.type=some .string) (h0:f.offset=0) (h1:g.offset=1) (hn0:f.name≠ "_") (hn1:g.name≠ "_") (hst:P.stoodInHeld t=false) (hgu:P.eqGuardType P.depth t=false)
  (hy:bB y=some y') (hz:bB z=some z') (he:exec Γ nid S (.mh neg y' z')=some (x,wr)):Good P E S a w o x wr:=by
 have ry:=h.iO hy;have rz:=h.iO hz;simp only[exec]at he;split at he
 ·rename_i k p s k' q u e1 e2;split at he
  ·rename_i hk;subst hk;obtain⟨rfl,rfl⟩:=bQ he;rw[e1]at ry;rw[e2]at rz;obtain⟨vs,hv,hr⟩:=ry.pd;obtain⟨us,hu,hr2⟩:=rz.pd;obtain⟨v1,vs1,rfl,r1,hr⟩:=hr.cons_inv;obtain⟨v2,vs2,rfl,r2,hr⟩:=hr.cons_inv;have:=hr.oZ;subst this;obtain⟨u1,us1,rfl,r3,hr2⟩:=hr2.cons_inv;obtain⟨u2,us2,rfl,r4,hr2⟩:=hr2.cons_inv;have:=hr2.oZ;subst this;have:=r1.fU;subst this;have:=r2.yH;subst this;have:=r3.fU;subst this;have:=r4.yH;subst this;have hrun:=XV (P:=P) (w:=w) (k:=k) (p:=p) (q:=q) (s:=s) (u:=u) ht hfs hf hg h0 h1 hn0 hn1 hst 9998
   have hgd:∀op,(eqGuard op t y z (.agg [.int k p,.string s].toArray) (.agg [.int k q,.string u].toArray)).run P w= .ok () w:=by
    intro op;cases op<;>simp[eqGuard,program,Sem.run,hgu]
   refine Good.pure h (v:= .bool (xor neg (decide (p=q)&&decide (s=u)))) ?_ (.bool _);cases neg
   ·simp only[Qq,Qu]at ho;simp only[execOp,ho,hv,hu,Sem.run_bind,hgd,Result.andThen_ok,binOp,Op.equal,Op.maxDepth,Sem.run_pure];rw[hrun];simp
   ·simp only[Qt]at ho;simp only[execOp,ho,hv,hu,Sem.run_bind,hgd,Result.andThen_ok,binOp,Op.equal,Op.maxDepth,Sem.run_pure];rw[hrun];simp
  ·cases he
 ·cases he
theorem E7:∀(ks ks':List LK) (cs ds:List PV) (b:Bool),mL (ks++ks') cs ds=some b->
  ∃b1 b2,mL ks (cs.take ks.length) (ds.take ks.length)=some b1/\mL ks' (cs.drop ks.length) (ds.drop ks.length)=some b2/\b=(b1&&b2)
 |[],ks',cs,ds,b,h=>⟨true,b,by simp[mL],by simpa using h,by simp⟩
 |k::ks,ks',cs,ds,b,h=>by
  cases k<;>cases cs<;>cases ds<;>simp only[List.cons_append,mL]at h<;>try (cases h;done)
  all_goals rename_i x cs y ds
  all_goals cases x<;>cases y<;>simp only[mL]at h<;>try (cases h;done)
  ·split at h
   ·rename_i hk;simp only[Qb]at h;obtain⟨r,hr,rfl⟩:=h;obtain⟨b1,b2,h1,h2,rfl⟩:=E7 ks ks' cs ds r hr;refine⟨_,b2,?_,h2,(Bool.and_assoc _ _ _).symm⟩;simp only[QE,List.take_succ_cons,mL,Qr hk,h1,Qe]
   ·cases h
  all_goals
   simp only[Qb]at h;obtain⟨r,hr,rfl⟩:=h;obtain⟨b1,b2,h1,h2,rfl⟩:=E7 ks ks' cs ds r hr;refine⟨_,b2,?_,h2,(Bool.and_assoc _ _ _).symm⟩;simp only[QE,List.take_succ_cons,mL,h1,Qe]
theorem My:∀(ks:List LK) (cs ds:List PV) (b:Bool),mL ks cs ds=some b->cs.length=ks.length/\ds.length=ks.length
 |[],cs,ds,b,h=>by cases cs<;>cases ds<;>simp[mL]at h<;>simp
 |k::ks,cs,ds,b,h=>by
  cases k<;>cases cs<;>cases ds<;>(try simp only[mL]at h)<;>try (cases h;done)
  all_goals rename_i x cs y ds
  all_goals cases x<;>cases y<;>simp only[mL]at h<;>try (cases h;done)
  ·split at h
   ·simp only[Qb]at h;obtain⟨r,hr,rfl⟩:=h;have:=My ks cs ds r hr;simp[this.1,this.2]
   ·cases h
  all_goals
   simp only[Qb]at h;obtain⟨r,hr,rfl⟩:=h;have:=My ks cs ds r hr;simp[this.1,this.2]
def valOf(P:Program)(t:TypeId)(vs:List Value):Value:=
 match P.underlying t with
 |some (.struct _)=> .agg vs.toArray
 |_=>vs.headD undef
theorem OB{d:Nat}{t:TypeId}{ks:List LK}(h:AS P (d+1) t=some ks):
  (∃k,P.underlying t=some (.int k)/\ks=[.i])\/(P.underlying t=some .string/\ks=[.s])\/(P.underlying t=some .bool/\ks=[.b])\/∃fs,P.underlying t=some (.struct fs)/\P.stoodInHeld t=false/\P7 P (AS P d) fs.toList 0=some ks:=by
 rw[AS]at h;split at h
 ·rename_i k hu;injection h with h;exact .inl ⟨k,hu,h.symm⟩
 ·rename_i hu;injection h with h;exact .inr (.inl ⟨hu,h.symm⟩)
 ·rename_i hu;injection h with h;exact .inr (.inr (.inl ⟨hu,h.symm⟩))
 ·rename_i fs hu;split at h
  ·rename_i hs;exact .inr (.inr (.inr ⟨fs,hu,hs,h⟩))
  ·cases h
 ·cases h
theorem M5{t:TypeId}{d off:Nat}{ks:List LK}{i:TypeInfo}{vs:List Value}(h:AS P d t=some ks)(hi:P.info? t=some i)(hn:i.size=ks.length)(hlen:off+ks.length<=vs.length):
  (part t vs.toArray off).run P w= .ok (valOf P t ((vs.drop off).take ks.length)) w:=by
 cases d with
 |zero=>simp[AS]at h
 |succ d=>
  have leaf:(∀fs,P.underlying t≠some (.struct fs))->(isAgg t).run P w= .ok false w->ks.length=1->(part t vs.toArray off).run P w= .ok (valOf P t ((vs.drop off).take ks.length)) w:=by
   intro hns ha h1;have hlt:off<vs.length:=by omega
   have hv:valOf P t ((vs.drop off).take ks.length)=vs[off]:=by
    unfold valOf;split
    ·rename_i fs hfs;exact absurd hfs (hns fs)
    ·rw[h1,QM hlt];rfl
   rw[hv];simp[part,ha,hlt]
  rcases OB h with⟨k,hu,rfl⟩|⟨hu,rfl⟩|⟨hu,rfl⟩|⟨fs,hu,_,_⟩
  ·exact leaf (fun fs e=>by rw[hu]at e;cases e) (by simp[isAgg,run_underlying hu]) rfl
  ·exact leaf (fun fs e=>by rw[hu]at e;cases e) (by simp[isAgg,run_underlying hu]) rfl
  ·exact leaf (fun fs e=>by rw[hu]at e;cases e) (by simp[isAgg,run_underlying hu]) rfl
  ·have ha:(isAgg t).run P w= .ok true w:=by simp[isAgg,run_underlying hu]
   have hv:valOf P t ((vs.drop off).take ks.length)= .agg ((vs.drop off).take ks.length).toArray:=by unfold valOf;rw[hu]
   rw[hv];simp[part,ha,sizeOf,typeInfo,hi,hn,List.extract]
theorem abh{M:Nat->Prop}{G:Gh}{d e:Nat}(hA:∀(t:TypeId) (ks:List LK) (cs ds:List PV) (b:Bool) (vs us:List Value),AS P d t=some ks->mL ks cs ds=some b->bj w M G cs vs->bj w M G ds us->(Op.equalIn e t (valOf P t vs) (valOf P t us)).run P w= .ok b w):
  ∀(fs:List Field) (ks:List LK) (off:Nat) (cs ds:List PV) (b:Bool) (vs us:List Value),P7 P (AS P d) fs off=some ks->cs.length=off+ks.length->ds.length=off+ks.length->mL ks (cs.drop off) (ds.drop off)=some b->bj w M G cs vs->bj w M G ds us->(Op.eqFields e vs.toArray us.toArray fs).run P w= .ok b w:=by
 intro fs
 induction fs with
 |nil=>
  intro ks off cs ds b vs us h hc hd hq hr hr2;simp only[P7,Qf]at h;subst h;rw[List.drop_eq_nil_of_le (by simpa using Nat.le_of_eq hc),List.drop_eq_nil_of_le (by simpa using Nat.le_of_eq hd)]at hq
  simp only[mL,Qf]at hq;subst hq;simp[Op.eqFields]
 |cons f fs ih=>
  intro ks off cs ds b vs us h hc hd hq hr hr2;rw[P7]at h;split at h
  ·rename_i hname;obtain⟨hname,hoff⟩:=hname;split at h
   ·rename_i k1 i hk1 hi;split at h
    ·rename_i hsz;simp only[Qb]at h;obtain⟨k2,hk2,rfl⟩:=h;rw[QB]at hc hd;obtain⟨b1,b2,h1,h2,rfl⟩:=E7 k1 k2 _ _ b hq;rw[List.drop_drop]at h2;rw[List.drop_drop]at h2;have p1:(part f.type vs.toArray f.offset).run P w=_:=M5 (w:=w) hk1 hi hsz (by rw[hoff,hr.1];omega)
     have p2:(part f.type us.toArray f.offset).run P w=_:=M5 (w:=w) hk1 hi hsz (by rw[hoff,hr2.1];omega)
     have q1:=hA f.type k1 _ _ b1 _ _ hk1 h1 ((hr.drop off).take k1.length) ((hr2.drop off).take k1.length);rw[<-hoff]at q1;have q2:=ih k2 (off+k1.length) cs ds b2 vs us hk2 (by omega) (by omega) h2 hr hr2
     cases b1 with
     |false=>simp[Op.eqFields,hname,p1,p2,q1]
     |true=>simp[Op.eqFields,hname,p1,p2,q1,q2]
    ·cases h
   ·cases h
  ·cases h
theorem TL{M:Nat->Prop}{G:Gh}:∀(d:Nat) (t:TypeId) (ks:List LK) (e:Nat) (cs ds:List PV) (b:Bool) (vs us:List Value),AS P d t=some ks->d<=e->mL ks cs ds=some b->bj w M G cs vs->bj w M G ds us->(Op.equalIn e t (valOf P t vs) (valOf P t us)).run P w= .ok b w
 |0=>fun t ks e cs ds b vs us h=>by simp[AS]at h
 |d+1=>by
  have hA:=TL (M:=M) (G:=G) d;intro t ks e cs ds b vs us h he hq hr hr2
  ·obtain⟨e,rfl⟩:∃e',e=e'+1:=⟨e - 1,by omega⟩
   obtain⟨hl1,hl2⟩:=My _ _ _ _ hq
   have one:∀{x:LK},ks=[x]->∃p q v u,cs=[p]/\ds=[q]/\vs=[v]/\us=[u]/\bm w M G p v/\bm w M G q u:=by
    intro x hx;subst hx;have h1:∃p,cs=[p]:=List.length_eq_one_iff.1 hl1;have h2:∃p,ds=[p]:=List.length_eq_one_iff.1 hl2;obtain⟨p,rfl⟩:=h1;obtain⟨q,rfl⟩:=h2;obtain⟨v,vs',rfl,r1,r2⟩:=hr.cons_inv;obtain⟨u,us',rfl,r3,r4⟩:=hr2.cons_inv;have e1:=r2.oZ;have e2:=r4.oZ;subst e1 e2;exact⟨p,q,v,u,rfl,rfl,rfl,rfl,r1,r3⟩
   have hval:∀l:List Value,(∀fs,P.underlying t≠some (.struct fs))->valOf P t l=l.headD undef:=by
    intro l hns;unfold valOf;split
    ·rename_i fs hfs;exact absurd hfs (hns fs)
    ·rfl
   rcases OB h with⟨k,hu,hk⟩|⟨hu,hk⟩|⟨hu,hk⟩|⟨fs,hu,hst,hf⟩
   ·obtain⟨p,q,v,u,rfl,rfl,rfl,rfl,r1,r2⟩:=one hk;subst hk;rw[hval _ (fun fs e=>by rw[hu]at e;cases e),hval _ (fun fs e=>by rw[hu]at e;cases e)]
    cases p<;>cases q<;>simp only[mL]at hq<;>try (cases hq;done)
    split at hq
    ·rename_i hkk;subst hkk;simp only[Qe,Qf,Bool.and_true]at hq;subst hq;have:=r1.fU;subst this;have:=r2.fU;subst this;rename_i k1 a1 b1;exact run_equalIn_int w e t _ k a1 b1 hu
    ·cases hq
   ·obtain⟨p,q,v,u,rfl,rfl,rfl,rfl,r1,r2⟩:=one hk;subst hk;rw[hval _ (fun fs e=>by rw[hu]at e;cases e),hval _ (fun fs e=>by rw[hu]at e;cases e)]
    cases p<;>cases q<;>simp only[mL]at hq<;>try (cases hq;done)
    simp only[Qe,Qf,Bool.and_true]at hq;subst hq;have:=r1.yH;subst this;have:=r2.yH;subst this;rename_i a1 b1;have:=run_equalIn_string (P:=P) w e t a1 b1 hu;rw[toList_eq_iff]at this;exact this
   ·obtain⟨p,q,v,u,rfl,rfl,rfl,rfl,r1,r2⟩:=one hk;subst hk;rw[hval _ (fun fs e=>by rw[hu]at e;cases e),hval _ (fun fs e=>by rw[hu]at e;cases e)]
    cases p<;>cases q<;>simp only[mL]at hq<;>try (cases hq;done)
    simp only[Qe,Qf,Bool.and_true]at hq;subst hq;have:=r1.og;subst this;have:=r2.og;subst this;rename_i a1 b1;have:=run_equalIn_bool (P:=P) w e t a1 b1 hu;rw[show(a1==b1)=decide (a1=b1)by cases a1<;>cases b1<;>rfl]at this
    exact this
   ·have hv:∀l:List Value,valOf P t l= .agg l.toArray:=fun l=>by unfold valOf;rw[hu]
    have hfo:P.fieldsOf t=fs:=by simp[Program.fieldsOf,hu]
    rw[hv,hv,run_equalIn_struct w e t _ _ (by rw[hfo];exact hu) hst,hfo]
    exact abh (fun t ks cs ds b vs us h1 h2 h3 h4=>hA t ks e cs ds b vs us h1 (by omega) h2 h3 h4) fs.toList ks 0 cs ds b vs us hf (by omega) (by omega) (by simpa using hq) hr hr2
theorem Tj(h:Rel E S a w L){neg:Bool}{ks:List LK}{y z:Operand}{y' z':bq}{t t2:TypeId}{fs:Array Field}(ho:o.op= .binOp (if neg then .neq else .eql) t y z t2)(ht:P.underlying t=some (.struct fs))(hk:AS P 64 t=some ks)
  (hgu:P.eqGuardType P.depth t=false) (hy:bB y=some y') (hz:bB z=some z') (he:exec Γ nid S (.FR neg ks y' z')=some (x,wr)):Good P E S a w o x wr:=by
 have ry:=h.iO hy;have rz:=h.iO hz;simp only[exec]at he;split at he
 ·rename_i cs ds e1 e2;simp only[Qb]at he;obtain⟨b,hb,he⟩:=he;injection he with h1 h2
  subst h1 h2;rw[e1]at ry;rw[e2]at rz;obtain⟨vs,hv,hr⟩:=ry.pd;obtain⟨us,hu,hr2⟩:=rz.pd;have hval:∀l:List Value,valOf P t l= .agg l.toArray:=fun l=>by unfold valOf;rw[ht]
  have hrun:=TL (P:=P) (w:=w) 64 t ks 10000 cs ds b vs us hk (by omega) hb hr hr2
  rw[hval,hval]at hrun
  have hgd:∀op,(eqGuard op t y z (.agg vs.toArray) (.agg us.toArray)).run P w= .ok () w:=by
   intro op;cases op<;>simp[eqGuard,program,Sem.run,hgu]
  refine Good.pure h (v:= .bool (xor neg b)) ?_ (.bool _);cases neg
  ·simp only[Qq,Qu]at ho;simp only[execOp,ho,hv,hu,Sem.run_bind,hgd,Result.andThen_ok,binOp,Op.equal,Op.maxDepth,Sem.run_pure];rw[hrun];simp
  ·simp only[Qt]at ho;simp only[execOp,ho,hv,hu,Sem.run_bind,hgd,Result.andThen_ok,binOp,Op.equal,Op.maxDepth,Sem.run_pure];rw[hrun];simp
 ·cases he
theorem V4{t:TypeId}{fs:Array Field}{f g:Field}{k0 l0 k l:IntKind}{p q s u:Int}(ht:P.underlying t=some (.struct fs))(hfs:fs.toList=[f,g])(hf:P.underlying f.type=some (.int k0))(hg:P.underlying g.type=some (.int l0))
  (h0:f.offset=0) (h1:g.offset=1) (hn0:f.name≠ "_") (hn1:g.name≠ "_") (hst:P.stoodInHeld t=false) (d:Nat):
  (Op.equalIn (d+2) t (.agg #[.int k p,.int l s]) (.agg #[.int k q,.int l u])).run P w= .ok (decide (p=q)&&decide (s=u)) w:=by
 have hfo:P.fieldsOf t=fs:=by simp[Program.fieldsOf,ht]
 have hi0:(isAgg f.type).run P w= .ok false w:=by simp[isAgg,run_underlying hf]
 have hi1:(isAgg g.type).run P w= .ok false w:=by simp[isAgg,run_underlying hg]
 have p0:∀v u:Value,(part f.type #[v,u] 0).run P w= .ok v w:=fun v u=>by simp[part,hi0]
 have p1:∀v u:Value,(part g.type #[v,u] 1).run P w= .ok u w:=fun v u=>by simp[part,hi1]
 rw[run_equalIn_struct w (d+1) t _ _ (by rw[hfo];exact ht) hst,hfo,hfs]
 have q0:=run_equalIn_int (P:=P) w d f.type k k0 p q hf;have q1:=run_equalIn_int (P:=P) w d g.type l l0 s u hg
 by_cases hpq:p=q
 ·subst hpq;simp[Op.eqFields,hn0,hn1,h0,h1,p0,p1,q0,q1]
  by_cases hsu:s=u<;>simp[hsu]
 ·have:(p==q)=false:=by simp[hpq]
  rw[this]at q0;simp[Op.eqFields,hn0,h0,p0,q0,hpq]
theorem V5{t:TypeId}{fs:Array Field}{f g:Field}{k0 l0 k l:IntKind}{p s:Int}(ht:P.underlying t=some (.struct fs))(hfs:fs.toList=[f,g])(hf:P.underlying f.type=some (.int k0))(hg:P.underlying g.type=some (.int l0))
  (h0:f.offset=0) (h1:g.offset=1) (hn0:f.name≠ "_") (hn1:g.name≠ "_") (em:Bool) (d:Nat):
  (Instr.checkKey em (d+2) t (.agg #[.int k p,.int l s])).run P w= .ok () w:=by
 have hi0:(isAgg f.type).run P w= .ok false w:=by simp[isAgg,run_underlying hf]
 have hi1:(isAgg g.type).run P w= .ok false w:=by simp[isAgg,run_underlying hg]
 have p0:∀v u:Value,(part f.type #[v,u] 0).run P w= .ok v w:=fun v u=>by simp[part,hi0]
 have p1:∀v u:Value,(part g.type #[v,u] 1).run P w= .ok u w:=fun v u=>by simp[part,hi1]
 have e1:fs=#[f,g]:=by rw[<-Array.toArray_toList (xs:=fs),hfs]
 subst e1;simp[Instr.checkKey,run_underlying ht,run_underlying hf,run_underlying hg,hn0,hn1,h0,h1,p0,p1]
theorem M7{t:TypeId}{fs:Array Field}{f g:Field}{k0 l0 k l:IntKind}{p s:Int}(ht:P.underlying t=some (.struct fs))(hfs:fs.toList=[f,g])(hf:P.underlying f.type=some (.int k0))(hg:P.underlying g.type=some (.int l0))
  (h0:f.offset=0) (h1:g.offset=1) (hn0:f.name≠ "_") (hn1:g.name≠ "_") (hst:P.stoodInHeld t=false) {M:Nat->Prop}:∀(es:List MapEntry) (ks vs:List PV) (i:Nat) (r:Option PV),Ek k p l s ks vs=some r->
  es.length=ks.length->es.length=vs.length->(∀(i:Nat) (x:PV) (e:MapEntry),ks[i]?=some x->es[i]?=some e->bm w M dw x e.key)->(∀(i:Nat) (x:PV) (e:MapEntry),vs[i]?=some x->es[i]?=some e->bm w M dw x e.val)->
  ∃q,(Instr.findAsking t (.agg #[.int k p,.int l s]) es i).run P w= .ok q w/\((r=none/\q=none)\/∃j x v,r=some x/\q=some (j,v)/\bm w M dw x v)
 |[],ks,vs,i,r,hm,hk,hv,_,_=>by
  cases ks with
  |cons=>simp at hk
  |nil=>cases vs with
   |cons=>simp at hv
   |nil=>
    simp only[Ek,Qf]at hm;subst hm;exact⟨none,by simp[Instr.findAsking],.inl ⟨rfl,rfl⟩⟩
 |e::es,ks,vs,i,r,hm,hk,hv,hr,hr2=>by
  cases ks with
  |nil=>simp at hk
  |cons x ks=>cases vs with
   |nil=>simp at hv
   |cons y vs=>
    unfold Ek at hm;split at hm
    ·rename_i heq _;cases heq
    ·rename_i k' a' l' b' ks' v' vs' heq heq2;injection heq with h3 h4
     injection heq2 with h5 h6
     subst h3 h4 h5 h6;split at hm
     ·rename_i hkl;obtain⟨rfl,rfl⟩:=hkl;have rk:=hr 0 _ e rfl rfl;obtain⟨us,hu,hru⟩:=rk.pd;obtain⟨u1,us1,rfl,r1,hru⟩:=hru.cons_inv;obtain⟨u2,us2,rfl,r2,hru⟩:=hru.cons_inv;have:=hru.oZ;subst this;have:=r1.fU;subst this;have:=r2.fU;subst this;have hq:=V4 (P:=P) (w:=w) (k:=k) (l:=l) (p:=p) (q:=a') (s:=s) (u:=b') ht hfs hf hg h0 h1 hn0 hn1 hst 9998;have hq2:(Op.equal t (.agg #[.int k p,.int l s]) e.key).run P w= .ok (decide (p=a')&&decide (s=b')) w:=by rw[hu];exact hq
      split at hm
      ·rename_i hab;obtain⟨rfl,rfl⟩:=hab;injection hm with hm
       subst hm;exact⟨some (i,e.val),by simp[Instr.findAsking,hq2],.inr ⟨i,y,e.val,rfl,rfl,hr2 0 y e rfl rfl⟩⟩
      ·rename_i hab
       have hf2:(decide (p=a')&&decide (s=b'))=false:=by
        rw[Bool.and_eq_false_iff,Qj,Qj]
        by_cases h:p=a'
        ·exact .inr fun h'=>hab ⟨h,h'⟩
        ·exact .inl h
       obtain⟨q,h3,h4⟩:=M7 ht hfs hf hg h0 h1 hn0 hn1 hst es ks vs (i+1) r hm (by simpa using hk) (by simpa using hv) (fun i x e h h'=>hr (i+1) x e (by simpa using h) (by simpa using h')) (fun i x e h h'=>hr2 (i+1) x e (by simpa using h) (by simpa using h'))
       refine⟨q,?_,h4⟩;rw[hf2]at hq2;simp[Instr.findAsking,hq2,h3]
     ·cases hm
    ·cases hm
theorem SF{t:TypeId}{fs:Array Field}{f g:Field}{k0 l0 k l:IntKind}{p s:Int}(ht:P.underlying t=some (.struct fs))(hfs:fs.toList=[f,g])(hf:P.underlying f.type=some (.int k0))(hg:P.underlying g.type=some (.int l0))
  (h0:f.offset=0) (h1:g.offset=1) (hn0:f.name≠ "_") (hn1:g.name≠ "_") (hst:P.stoodInHeld t=false) {M:Nat->Prop} {es:List MapEntry} {ks vs:List PV} {r:Option PV} (hm:Ek k p l s ks vs=some r)
  (hk:es.length=ks.length) (hv:es.length=vs.length) (hr:∀(i:Nat) (x:PV) (e:MapEntry),ks[i]?=some x->es[i]?=some e->bm w M dw x e.key) (hr2:∀(i:Nat) (x:PV) (e:MapEntry),vs[i]?=some x->es[i]?=some e->bm w M dw x e.val):
  ∃q,(Instr.findKey t (.agg #[.int k p,.int l s]) es).run P w= .ok q w/\((r=none/\q=none)\/∃j x v,r=some x/\q=some (j,v)/\bm w M dw x v):=by
 obtain⟨q,h3,h4⟩:=M7 ht hfs hf hg h0 h1 hn0 hn1 hst es ks vs 0 r hm hk hv hr hr2;refine⟨q,?_,h4⟩
 cases es with
 |nil=>
  simp[Instr.findAsking]at h3;simp[Instr.findKey,run_underlying ht,Instr.findNow,<-h3]
 |cons e es=>simp[Instr.findKey,run_underlying ht,Instr.findNow,Instr.sameNow,h3]
theorem ab2(h:Rel E S a w L){ok:Bool}{y z:Operand}{y' z':bq}{t kt vt:TypeId}{fs:Array Field}{f g:Field}{k0 l0:IntKind}{zv:PV}(ho:o.op= .lookup t y z ok)(ht:P.underlying t=some (.map kt vt))(hkt:P.underlying kt=some (.struct fs))(hfs:fs.toList=[f,g])
  (hf:P.underlying f.type=some (.int k0)) (hg:P.underlying g.type=some (.int l0)) (h0:f.offset=0) (h1:g.offset=1) (hn0:f.name≠ "_") (hn1:g.name≠ "_") (hst:P.stoodInHeld kt=false) {i:TypeInfo} {z0:Value} (hi:P.info? vt=some i) (hz0:i.zero=some z0) (hz:AU z0=some zv)
  (hy:bB y=some y') (hzz:bB z=some z') (he:exec Γ nid S (.lookup ok zv y' z')=some (x,wr)):Good P E S a w o x wr:=by
 have ry:=h.iO hy;have rz:=h.iO hzz;simp only[exec]at he;split at he
 ·rename_i ks vs k p l s e1 e2;simp only[Qb]at he;obtain⟨r,hm,he⟩:=he;injection he with he1 he2
  subst he1 he2;rw[e1]at ry;rw[e2]at rz;obtain⟨us,hu,hru⟩:=rz.pd;obtain⟨u1,us1,rfl,r1,hru⟩:=hru.cons_inv;obtain⟨u2,us2,rfl,r2,hru⟩:=hru.cons_inv;have:=hru.oZ;subst this;have:=r1.fU;subst this;have:=r2.fU;subst this;generalize hev:a.eval y=vy at ry
  cases ry with
  |jc _ _ b es ck hb hMb hk hv h3 h4=>
   obtain⟨q,h5,h6⟩:=SF (P:=P) (k:=k) (l:=l) (p:=p) (s:=s) hkt hfs hf hg h0 h1 hn0 hn1 hst (es:=es.toList) hm (by simpa using hk) (by simpa using hv) (fun i x e hi hj=>h3 i x e hi (by simpa using hj)) (fun i x e hi hj=>h4 i x e hi (by simpa using hj))
   have hchk:∀em,(Instr.checkKey em 10000 kt (.agg #[.int k p,.int l s])).run P w= .ok () w:=fun em=>V5 hkt hfs hf hg h0 h1 hn0 hn1 em 9998
   have hobj:(getObj b).run P w= .ok (.map es ck) w:=by simp[getObj,Sem.run,hb]
   have hzero:∃v0,(zeroValue vt).run P w= .ok v0 w/\bm w (bu E S L) (S.gh L) (nz zv) v0:=by
    refine⟨z0,by simp[zeroValue,typeInfo,hi,hz0,Sem.run,program],?_⟩
    have:=Fa (w:=w) (M:=bu E S L) (G:=S.gh L) hz;unfold nz;split
    ·have e5:=this.rG;rw[e5];exact .slnil
    ·exact this
   obtain⟨v0,hz1,hz2⟩:=hzero;rcases h6 with⟨rfl,rfl⟩|⟨j,x,v,rfl,rfl,hx⟩
   ·cases ok
    ·refine Good.pure h (v:=v0) ?_ hz2;simp[execOp,ho,hev,hu,Instr.lookup,run_underlying ht,hobj,hchk,h5,hz1]
    ·refine Good.pure h (v:= .tuple #[v0,.bool false]) ?_ (.eo _ [v0,.bool false] rfl ?_)
     ·simp[execOp,ho,hev,hu,Instr.lookup,run_underlying ht,hobj,hchk,h5,hz1]
     ·exact(bj.cons hz2 (.cons (.bool _) .nil)).2
   ·have hx':bm w (bu E S L) (S.gh L) x v:=hx.mono (dW.of fun _ h=>h) (dw.le _)
    cases ok
    ·refine Good.pure h (v:=v) ?_ hx';simp[execOp,ho,hev,hu,Instr.lookup,run_underlying ht,hobj,hchk,h5]
    ·refine Good.pure h (v:= .tuple #[v,.bool true]) ?_ (.eo _ [v,.bool true] rfl ?_)
     ·simp[execOp,ho,hev,hu,Instr.lookup,run_underlying ht,hobj,hchk,h5]
     ·exact(bj.cons hx' (.cons (.bool _) .nil)).2
 ·cases he
theorem bm.closed{M M':Nat->Prop}{G G':Gh}{y:PV}{v:Value}(hc:y.closed=true)(hM:∀b,M' b->M b)(h:bm w M G y v):bm w M' G' y v:=by
 have hs:dW w w M M':=(dW.of fun _ hm=>fun h'=>hm (hM _ h'))
 cases h with
 |any=>simp[PV.closed]at hc
 |undef=>simp[PV.closed]at hc
 |int=>exact .int _ _
 |bool=>exact .bool _
 |gS=>first|exact .gS _|simp[PV.closed]at hc
 |str=>exact .str _
 |lz=>exact .lz
 |et=>exact .et
 |bG f cs vs hl h=>
  cases cs with
  |nil=>exact .bG f [] vs hl (fun i x v hx _=>by simp at hx)
  |cons=>simp[PV.closed]at hc
 |jN=>simp[PV.closed]at hc
 |agg=>simp[PV.closed]at hc
 |eo=>simp[PV.closed]at hc
 |ptr=>simp[PV.closed]at hc
 |ref cs ad vs hl hcell h=>exact .ref cs ad vs hl (fun i u hu=>⟨(hcell i u hu).1,fun h'=>(hcell i u hu).2 (hM _ h')⟩) (fun i p u hp hu=>(h i p u hp hu).mono hs (Gh.le.refl _))
 |sl es ad c k vs hk hl hcell h hn hm=>exact .sl es ad c k vs hk hl (fun i u hu=>⟨(hcell i u hu).1,fun h'=>(hcell i u hu).2 (hM _ h')⟩) (fun i p u hp hu=>(h i p u hp hu).mono hs (Gh.le.refl _)) hn hm
 |slnil=>exact .slnil
 |own=>simp[PV.closed]at hc
 |fg=>simp[PV.closed]at hc
 |view=>simp[PV.closed]at hc
 |jc ks us b es ck hb hMb hk hv h1 h2=>exact .jc ks us b es ck hb (fun h'=>hMb (hM _ h')) hk hv (fun i p e hp he=>(h1 i p e hp he).mono hs (Gh.le.refl _)) (fun i p e hp he=>(h2 i p e hp he).mono hs (Gh.le.refl _))
theorem bj.closed{M M':Nat->Prop}{G G':Gh}{ys:List PV}{vs:List Value}(hc:ys.all PV.closed=true)(hM:∀b,M' b->M b)(h:bj w M G ys vs):bj w M' G' ys vs:=
 ⟨h.1,fun i y v hy hv=>(h.2 i y v hy hv).closed (QH.1 hc y (Q8 hy)) hM⟩
theorem bm.bE{M M':Nat->Prop}{G G':Gh}{y:PV}{v:Value}(hc:y.bE=true)(hM:∀b,M' b->M b)(h:bm w M G y v):bm w M' G' y v:=by
 cases y with
 |agg cs=>cases h with|agg _ vs hl h=>have:=bj.closed (G':=G') (by simpa[PV.bE]using hc) hM ⟨hl,h⟩;exact .agg cs vs this.1 this.2
 |eo cs=>cases h with|eo _ vs hl h=>have:=bj.closed (G':=G') (by simpa[PV.bE]using hc) hM ⟨hl,h⟩;exact .eo cs vs this.1 this.2
 |bG f cs=>cases h with|bG _ _ vs hl h=>have:=bj.closed (G':=G') (by simpa[PV.bE]using hc) hM ⟨hl,h⟩;exact .bG f cs vs this.1 this.2
 |_=>exact h.closed (by simpa[PV.bE]using hc) hM
theorem bm.wy{M M':Nat->Prop}{G G':Gh}{y:PV}{v:Value}(hc:y.wy=true)(hM:∀b,M' b->M b)(h:bm w M G y v):bm w M' G' y v:=by
 cases y with
 |eo cs=>cases h with|eo _ vs hl h=>exact .eo cs vs hl fun i y v hy hv=>(h i y v hy hv).bE (QH.1 (show cs.all PV.bE=true from hc) y (Q8 hy)) hM
 |_=>exact h.bE hc hM
theorem bm.plain{w':World}{M M':Nat->Prop}{G G':Gh}{y:PV}{v:Value}(hc:y.plain=true)(h:bm w M G y v):bm w' M' G' y v:=by
 cases h<;>simp[PV.plain]at hc<;>constructor
theorem bm.qM{w':World}{M M':Nat->Prop}{G G':Gh}{y:PV}{v:Value}(hc:y.qM=true)(h:bm w M G y v):bm w' M' G' y v:=by
 have go:∀{cs:List PV} {vs:List Value},cs.all PV.plain=true->bj w M G cs vs->bj w' M' G' cs vs:=fun hc h=>⟨h.1,fun i y v hy hv=>(h.2 i y v hy hv).plain (QH.1 hc y (Q8 hy))⟩
 cases y with
 |agg cs=>cases h with|agg _ vs hl h=>have:=go (by simpa[PV.qM]using hc) ⟨hl,h⟩;exact .agg cs vs this.1 this.2
 |_=>exact h.plain (by simpa[PV.qM]using hc)
theorem bm.uV{w':World}{M M':Nat->Prop}{G G':Gh}{y:PV}{v:Value}(hc:y.uV=true)(h:bm w M G y v):bm w' M' G' y v:=by
 cases y with
 |eo cs=>cases h with|eo _ vs hl h=>exact .eo cs vs hl fun i y v hy hv=>(h i y v hy hv).qM (QH.1 (show cs.all PV.qM=true from hc) y (Q8 hy))
 |_=>exact h.qM hc
theorem bj.plain{w':World}{M M':Nat->Prop}{G G':Gh}{ys:List PV}{vs:List Value}(hc:ys.all PV.plain=true)(h:bj w M G ys vs):bj w' M' G' ys vs:=
 ⟨h.1,fun i y v hy hv=>(h.2 i y v hy hv).plain (QH.1 hc y (Q8 hy))⟩
theorem xN{H:Nat->gp}{ex:Option Nat}{M M':Nat->Prop}{G:Gh}{y:PV}{v:Value}(hc:y.closed=true)(hM:∀b,M' b->M b)(h:bm w M G y v)(n:Nat):bm w M' dw (fz H ex n y) v:=by
 have hn:y= .et\/fz H ex n y=y:=by
  cases y with
  |bG f cs=>
   cases cs with
   |nil=>right;cases n<;>simp[fz,PV.closed]
   |cons=>simp[PV.closed]at hc
  |_=>first|exact .inl rfl|(right;cases n<;>simp_all [fz,PV.closed])|(simp[PV.closed]at hc;done)
 rcases hn with rfl|hn
 ·have:=h.rG;subst this;cases n<;>exact .slnil
 ·rw[hn];exact h.closed hc hM
theorem PZ{H:Nat->gp}{ex:Option Nat}{M M':Nat->Prop}{G:Gh}{y:PV}{v:Value}(hc:y.bE=true)(hM:∀b,M' b->M b)(h:bm w M G y v)(n:Nat):bm w M' dw (fz H ex (n+1) y) v:=by
 have go:∀{cs:List PV} {vs:List Value},cs.all PV.closed=true->bj w M G cs vs->bj w M' dw (cs.map (fz H ex n)) vs:=fun hc hr=>
  ⟨by simp[hr.1],fun i p u hp hu=>by
   rw[QT,Qb]at hp;obtain⟨q,hq,rfl⟩:=hp
   exact xN (QH.1 hc q (Q8 hq)) hM (hr.2 i q u hq hu) n⟩
 cases y with
 |agg cs=>obtain⟨vs,rfl,hr⟩:=h.pd;have:=go (by simpa[PV.bE]using hc) hr;simp only[fz];exact .agg _ _ this.1 this.2
 |eo cs=>obtain⟨vs,rfl,hr⟩:=h.Fi;have:=go (by simpa[PV.bE]using hc) hr;simp only[fz];exact .eo _ _ this.1 this.2
 |bG f cs=>obtain⟨vs,rfl,hr⟩:=h.yP;have:=go (by simpa[PV.bE]using hc) hr;simp only[fz];exact .bG _ _ _ this.1 this.2
 |_=>exact xN (by simpa[PV.bE]using hc) hM h (n+1)
theorem Rel.fz(h:Rel E S a w L){ex:Option Nat}{M:Nat->Prop}(hM:∀b,M b->bu E S L b)(hx:∀id b,id<S.N->(S.H id).c.live=true->some id≠ex->cp (L id)=some b->¬M b):
  ∀(n:Nat) {y:PV} {v:Value},bm w (bu E S L) (S.gh L) y v->bm w M dw (fz S.H ex n y) v
 |0,y,v,r=>by
  cases hc:y.closed with
  |true=>exact xN hc hM r 0
  |false=>
   have:TQ.fz S.H ex 0 y= .any:=by cases y<;>simp_all [TQ.fz,PV.closed]
   rw[this];exact .any _
 |n+1,y,v,r=>by
  have ih:=fun{y:PV} {v:Value} (r:bm w (bu E S L) (S.gh L) y v)=>h.fz hM hx n r
  have ihl:∀{cs:List PV} {vs:List Value},bj w (bu E S L) (S.gh L) cs vs->bj w M dw (cs.map (TQ.fz S.H ex n)) vs:=fun hr=>
   ⟨by simp[hr.1],fun i p u hp hu=>by
    rw[QT,Qb]at hp;obtain⟨q,hq,rfl⟩:=hp
    exact ih (hr.2 i q u hq hu)⟩
  cases y with
  |own id av=>
   simp only[TQ.fz];split
   ·exact .any _
   ·rename_i hne;have hne':some id≠ex/\(S.H id).av=av:=⟨fun e=>hne (.inl e),Classical.not_not.1 fun e=>hne (.inr e)⟩
    split
    ·rename_i e k es hc;obtain⟨hN,hv⟩:=r.nN (show(S.gh L).V id=av from hne'.2)
     obtain⟨vs,hown,hk,hr⟩:=h.k8 hN hc;rw[hv,show(S.gh L).L id=L id from rfl]
     have hfl:(es.map fun e=>e.map (TQ.fz S.H ex n)).flatten=es.flatten.map (TQ.fz S.H ex n):=by rw[List.map_flatten]
     rcases hown.2 with⟨hL,h0⟩|⟨g,cap,cur,hL,_,hh,hnc,hcm,_⟩
     ·have:es=[]:=Qq67 h0;subst this;rw[hL];exact .slnil
     ·rw[hL];have hr2:=ihl hr;rw[<-hfl]at hr2;have hlen:es.length=(es.map fun e=>e.map (TQ.fz S.H ex n)).length:=by simp
      rw[hlen];refine .sl _ _ _ k vs (fun u hu=> ?_) hr2.1 (fun i u hu=>⟨hown.cells (g:=g) (by rw[hL];rfl) i u hu,hx id g hN (by rw[hc];rfl) hne'.1 (by rw[hL];rfl)⟩) hr2.2 (by simpa using hnc) hcm
      obtain⟨q,hq,rfl⟩:=QP.1 hu;simpa using hk q hq
    ·exact .any _
  |ptr id av off=>
   simp only[TQ.fz];split
   ·exact .any _
   ·rename_i hne;have hne':some id≠ex/\(S.H id).av=av:=⟨fun e=>hne (.inl e),Classical.not_not.1 fun e=>hne (.inr e)⟩
    split
    ·rename_i cs hc;obtain⟨hN,_⟩:=r.ud (show(S.gh L).V id=av from hne'.2)
     obtain⟨b,hv,hL⟩:=h.uU r hne'.2 hc;obtain⟨b',cur,T,hL',hh,hr,_⟩:=h.tQ hN hc;rw[hL]at hL';simp only[Value.pointer.injEq,Qf,Addr.mk.injEq]at hL';obtain⟨rfl,_⟩:=hL';rw[hv];have hr2:=(ihl hr).drop off;exact .ref _ _ _ hr2.1 (fun i u hu=>⟨by rw[add_mid];exact qW hh (ig hu),hx id b hN (by rw[hc];rfl) hne'.1 (by rw[hL];rfl)⟩) hr2.2
    ·exact .any _
  |agg cs=>obtain⟨vs,rfl,hr⟩:=r.pd;have:=ihl hr;exact .agg _ _ this.1 this.2
  |eo cs=>obtain⟨vs,rfl,hr⟩:=r.Fi;have:=ihl hr;exact .eo _ _ this.1 this.2
  |bG f cs=>obtain⟨vs,rfl,hr⟩:=r.yP;have:=ihl hr;exact .bG _ _ _ this.1 this.2
  |et=>exact xN rfl hM r (n+1)
  |_=>
   simp only[TQ.fz];split
   ·rename_i hc;exact r.closed hc hM
   ·exact .any _
theorem C0(h:Rel E S a w L){b:Nat}(hb:bu E S L b):b<w.heap.size:=by
 rcases hb with⟨id,hid,hl,hb⟩|hb
 ·exact((h.obj id hid).zT hl hb).1
 ·exact QJ (E.hX b hb) h.fr.size
theorem bj.fz(h:Rel E S a w L){ex:Option Nat}{M:Nat->Prop}(hM:∀b,M b->bu E S L b)(hx:∀id b,id<S.N->(S.H id).c.live=true->some id≠ex->cp (L id)=some b->¬M b){args:List PV}{vs:List Value}
  (hr:bj w (bu E S L) (S.gh L) args vs):bj w M dw (args.map (TQ.fz S.H ex 9)) vs:=
 ⟨by simp[hr.1],fun i p u hp hu=>by
  rw[QT,Qb]at hp;obtain⟨q,hq,rfl⟩:=hp
  exact h.fz hM hx 9 (hr.2 i q u hq hu)⟩
theorem bj.bE{M M':Nat->Prop}{G G':Gh}{ys:List PV}{vs:List Value}(hc:ys.all PV.bE=true)(hM:∀b,M' b->M b)(h:bj w M G ys vs):bj w M' G' ys vs:=
 ⟨h.1,fun i y v hy hv=>(h.2 i y v hy hv).bE (QH.1 hc y (Q8 hy)) hM⟩
theorem bj.zM{H:Nat->gp}{ex:Option Nat}{M M':Nat->Prop}{G:Gh}{ys:List PV}{vs:List Value}(hc:ys.all PV.bE=true)(hM:∀b,M' b->M b)(h:bj w M G ys vs):bj w M' dw (ys.map (TQ.fz H ex 9)) vs:=
 ⟨by simp[h.1],fun i p u hp hu=>by
  rw[QT,Qb]at hp;obtain⟨q,hq,rfl⟩:=hp
  exact PZ (QH.1 hc q (Q8 hq)) hM (h.2 i q u hq hu) 8⟩
theorem EN{es:List (List PV)}(h:BA es=true):es.flatten.all PV.closed=true:=by
 refine QH.2 fun y hy=> ?_
 obtain⟨u,hu,hyu⟩:=List.mem_flatten.1 hy;exact QH.1 (QH.1 h u hu) y hyu
theorem EM{es:List (List PV)}(h:IC es=true):es.flatten.all PV.plain=true:=by
 refine QH.2 fun y hy=> ?_
 obtain⟨u,hu,hyu⟩:=List.mem_flatten.1 hy;exact QH.1 (QH.1 h u hu) y hyu
theorem Dk{w:World}{b:Nat}{e k:Nat}{v:Value}{n:Nat}{xs:List Value}(h:w.ownsRow b e k v n xs):w.ownsRow 0 e k v n xs:=by
 refine⟨h.1,?_⟩;rcases h.2 with h1|⟨g,cap,cur,h1,_,h3⟩
 ·exact .inl h1
 ·exact .inr ⟨g,cap,cur,h1,QS _,h3⟩
theorem Ue{w w':World}{b:Nat}{e k:Nat}{v:Value}{n n':Nat}{xs ys:List Value}(h:w.ownsRow b e k v n xs)(h':w'.ownsRow 0 e k v n' ys):w'.ownsRow b e k v n' ys:=by
 refine⟨h'.1,?_⟩;rcases h'.2 with h1|⟨g,cap,cur,h1,_,h3⟩
 ·exact .inl h1
 ·refine .inr ⟨g,cap,cur,h1,?_,h3⟩;rcases h.2 with⟨h4,_⟩|⟨g',cap',cur',h4,h5,_⟩
  ·rw[h4]at h1;cases h1
  ·rw[h4]at h1;injection h1 with h1
   injection h1 with h1
   injection h1 with h1
   omega
theorem Hz{w:World}{b:Nat}{e k:Nat}{v:Value}{n:Nat}{xs:List Value}(h:w.ownsRow b e k v n xs):∃ad n c,v= .slice ad n c:=by
 rcases h.2 with⟨rfl,_⟩|⟨g,cap,cur,rfl,_⟩
 ·exact⟨_,_,_,rfl⟩
 ·exact⟨_,_,_,rfl⟩
theorem Ej{E:En}{w w':World}{b:Nat}{e k:Nat}{v u:Value}{n n':Nat}{xs ys:List Value}(h:w.ownsRow (gH E v) e k v n xs)(h':w'.ownsRow 0 e k u n' ys)(hs:E.w0.heap.size<=b)
  (hu:∀g,cp u=some g->cp v=some g\/b<=g):w'.ownsRow (gH E u) e k u n' ys:=by
 refine⟨h'.1,?_⟩;rcases h'.2 with h1|⟨g,cap,cur,h1,_,h3⟩
 ·exact .inl h1
 ·refine .inr ⟨g,cap,cur,h1,?_,h3⟩;have hbu:cp u=some g:=by rw[h1];rfl
  rcases hu g hbu with hv|hv
  ·rw[B6 (v:=u) (v':=v) (by rw[hbu,hv])]
   rcases h.2 with⟨h4,_⟩|⟨g',cap',cur',h4,h5,_⟩
   ·rw[h4]at hv;cases hv
   ·rw[h4]at hv;simp only[cp,Qf]at hv;omega
  ·rw[KZ hbu (QK hs hv)];exact QK hs hv
theorem WH(h:Rel E S a w L){id:Nat}(hN:id<S.N)(hlive:(S.H id).c.live=true){rest:List PV}{vs':List Value}(hr':bj w (bu E S L) (S.gh L) rest vs'):
  ∃X:Nat->Prop,(∀q,X q->q<w.heap.size)/\(∀b,cp (L id)=some b->¬X b)/\(∀q,Mv (L id) X q->bu E S L q)/\bj w (Mv (L id) X) dw (rest.map (TQ.fz S.H (some id) 9)) vs'/\(rest.all PV.bE=true->∀q,bu E S L q->Mv (L id) X q):=by
 have hmb:∀b,cp (L id)=some b->bu E S L b:=fun b hb=> .inl ⟨id,hN,hlive,hb⟩
 by_cases hall:rest.all PV.bE=true
 ·have hsub:∀q,Mv (L id) (fun q=>bu E S L q/\cp (L id)≠some q) q->bu E S L q:=by
   rintro q (hq|hq)
   ·exact hmb q hq
   ·exact hq.1
  refine⟨fun q=>bu E S L q/\cp (L id)≠some q,fun q hq=>C0 h hq.1,fun b hb hq=>hq.2 hb,hsub,hr'.zM hall hsub,fun _ q hq=> ?_⟩
  by_cases hb:cp (L id)=some q
  ·exact .inl hb
  ·exact .inr ⟨hq,hb⟩
 ·have hsub:∀q,Mv (L id) (fun _=>False) q->bu E S L q:=by
   rintro q (hq|hq)
   ·exact hmb q hq
   ·exact hq.elim
  refine⟨fun _=>False,fun _ hq=>hq.elim,fun _ _ hq=>hq,hsub,?_,fun hq=>absurd hq hall⟩
  refine hr'.fz h hsub (fun j q hj hjl hne hjb hq=> ?_)
  rcases hq with hq|hq
  ·exact hne (by rw[h.apart j id q hj hN hjl hlive hjb hq])
  ·exact hq
theorem agL{f:FuncId}{m:Model}{e k:Nat}(hrow:∀es args r es',m.rm es args=some (r,es')->Zf P f e k es args r es')(h:Rel E S a w L){args:List PV}{vs:List Value}(hr:bj w (bu E S L) (S.gh L) args vs)(he:AW m e k S args=some (x,wr)):
  Calls P f vs.toArray w (fun en w'=>∃v L',en= .returned v/\Rel E (S.fL wr) a w' L'/\bm w' (bu E (S.fL wr) L') ((S.fL wr).gh L') x v):=by
 unfold AW at he;split at he
 case h_2=>cases he
 rename_i id av rest;split at he
 case isFalse=>cases he
 rename_i hver;split at he
 case h_2=>cases he
 rename_i e' k' es hc;split at he
 case isFalse=>cases he
 rename_i hek;obtain⟨rfl,rfl,hok⟩:=hek;split at he
 case h_2=>cases he
 rename_i r es' hmm;split at he
 case isFalse=>cases he
 rename_i hcond;obtain⟨rfl,rfl⟩:=bQ he;simp only[Qm,Qn]at hcond;obtain⟨⟨hc1,hc2⟩,hc3⟩:=hcond;obtain⟨v0,vs',rfl,r0,hr'⟩:=hr.cons_inv;obtain⟨hN,hv0⟩:=r0.nN (show(S.gh L).V id=av from hver)
 have hv0:v0=L id:=hv0;subst hv0;have hlive:(S.H id).c.live=true:=by rw[hc];rfl
 obtain⟨us,hown,hk,hru⟩:=h.k8 hN hc;obtain⟨X,hX,hXn,hsub,hargs,hsup⟩:=WH h hN hlive hr';refine(hrow es _ r es' hmm w X hX (L id) vs' hXn ⟨us,Dk hown,hk,hru.closed (EN hok) hsub⟩ hargs).mono ?_;rintro en w' ⟨u,rfl,hrep,⟨us',hown',hk',hru'⟩,hfr⟩
 have hmm':∀q,bu E {S with H:=bN S.H id ⟨av,.row e' k' es'⟩} (bN L id (L id)) q->bu E S L q:=by
  rintro q (⟨j,hj,hjl,hjb⟩|hq)
  ·simp only at hj hjl;have:bN L id (L id) j=L j:=by by_cases hji:j=id<;>simp[bN,hji]
   rw[this]at hjb
   by_cases hji:j=id
   ·subst hji;exact .inl ⟨j,hj,hlive,hjb⟩
   ·rw[cP _ _ hji]at hjl;exact .inl ⟨j,hj,hjl,hjb⟩
  ·exact .inr hq
 have hst:rest.all PV.bE=true->dW w' w' (Mv (L id) X) (bu E {S with H:=bN S.H id ⟨av,.row e' k' es'⟩} (bN L id (L id))):=fun hall=>(dW.of fun _ hnm=>fun hq=>hnm (hsup hall _ (hmm' _ hq)))
 obtain⟨h2,hs2,hg2⟩:=h.uQ (w':=w') (hdr:=hfr.drawn) hN ⟨av,.row e' k' es'⟩ (L id) (.inl ⟨hver.symm,rfl,hlive⟩) hfr.os hfr.tape hfr.output hfr.size
  (fun q hq hne=>hfr.block q hq (hne hlive)) (fun q _ hq=> .inl ⟨hlive,hq⟩)
  (fun hs2 hg2=>⟨us',Ue hown hown',hk',by
   rcases hc3 with hpl|hall
   ·exact hru'.plain (EM hpl)
   ·exact hru'.mono (hst hall) (dw.le _)⟩)
 refine⟨u,_,rfl,h2,?_⟩;rcases hc1 with hpl|hall
 ·exact hrep.uV hpl
 ·exact hrep.mono (hst hall.1) (dw.le _)
theorem agJ{f:FuncId}{m:Model}{e k:Nat}(hrow:∀es args r es',m.rm es args=some (r,es')->MN P f e k es args es')(h:Rel E S a w L){args:List PV}{vs:List Value}(hr:bj w (bu E S L) (S.gh L) args vs)(he:AV m e k S args=some (x,wr)):
  Calls P f vs.toArray w (fun en w'=>∃v L',en= .returned v/\Rel E (S.fL wr) a w' L'/\bm w' (bu E (S.fL wr) L') ((S.fL wr).gh L') x v):=by
 unfold AV at he;split at he
 case h_2=>cases he
 rename_i id av rest;split at he
 case isFalse=>cases he
 rename_i hver;split at he
 case h_2=>cases he
 rename_i e' k' es hc;split at he
 case isFalse=>cases he
 rename_i hek;obtain⟨rfl,rfl,hok⟩:=hek;split at he
 case h_2=>cases he
 rename_i r es' hmm;split at he
 case isFalse=>cases he
 rename_i hcond;obtain⟨rfl,rfl⟩:=bQ he;simp only[Qm,Qn]at hcond;obtain⟨hc2,hc3⟩:=hcond;obtain⟨v0,vs',rfl,r0,hr'⟩:=hr.cons_inv;obtain⟨hN,hv0⟩:=r0.nN (show(S.gh L).V id=av from hver)
 have hv0:v0=L id:=hv0;subst hv0;have hlive:(S.H id).c.live=true:=by rw[hc];rfl
 obtain⟨us,hown,hk,hru⟩:=h.k8 hN hc;obtain⟨X,hX,hXn,hsub,hargs,hsup⟩:=WH h hN hlive hr';refine(hrow es _ r es' hmm w X hX (L id) vs' hXn ⟨us,Dk hown,hk,hru.closed (EN hok) hsub⟩ hargs).mono ?_;rintro en w' ⟨u,rfl,⟨us',hown',hk',hru'⟩,hub,hfr⟩
 have hEX:∀q,E.X q->cp (L id)≠some q:=by
  intro q hq hb;rcases hown.2 with⟨h4,_⟩|⟨g',cap',cur',h4,h5,_⟩
  ·rw[h4]at hb;cases hb
  ·have hbg:cp (L id)=some g':=by rw[h4];rfl
   rw[hb]at hbg;injection hbg with hbg
   subst hbg;rcases Gt hb h5 with⟨h6,h7⟩|h6
   ·exact E.UT h6 q h7 hq
   ·have:=E.hX q hq;omega
 have hst:rest.all PV.bE=true->dW w' w' (Mv u X) (bu E {S with H:=bN S.H id ⟨av+1,.row e' k' es'⟩} (bN L id u)):=by
  intro hall;refine(dW.of fun _ hnm=>fun hq=>hnm ?_)
  rcases hq with⟨j,hj,hjl,hjb⟩|hq
  ·simp only at hj hjl
   by_cases hji:j=id
   ·subst hji;rw[cq]at hjb;exact .inl hjb
   ·rw[cP _ _ hji]at hjl hjb;rcases hsup hall _ (.inl ⟨j,hj,hjl,hjb⟩)with hq|hq
    ·exact absurd (h.apart j id _ hj hN hjl hlive hjb hq) hji
    ·exact .inr hq
  ·rcases hsup hall _ (.inr hq)with hq'|hq'
   ·exact absurd hq' (hEX _ hq)
   ·exact .inr hq'
 obtain⟨h2,hs2,hg2⟩:=h.uQ (w':=w') (hdr:=hfr.drawn) hN ⟨av+1,.row e' k' es'⟩ u (.inr (by show(S.H id).av<av+1;omega)) hfr.os hfr.tape hfr.output hfr.size
  (fun q hq hne=>hfr.block q hq (hne hlive)) (fun q _ hq=>(hub q hq).imp (fun hb=>⟨hlive,hb⟩) (fun hb=>hb))
  (fun hs2 hg2=>⟨us',Ej hown hown' h.fr.size hub,hk',by
   rcases hc3 with hpl|hall
   ·exact hru'.plain (EM hpl)
   ·exact hru'.mono (hst hall) (dw.le _)⟩)
 obtain⟨ad,n,c,hu⟩:=Hz hown';refine⟨u,_,rfl,h2,?_⟩;subst hu;exact .own _ _ _ _ _ hN (by simp[St.gh,St.fL,cq]) (fun _=>by simp[St.gh,St.fL,cq])
theorem agy{f:FuncId}{m:Model}{e k:Nat}(hrow:∀args r es',m.rm [] args=some (r,es')->VU P f args e k es')(h:Rel E S a w L)(hn:nid<S.N){args:List PV}{vs:List Value}(hr:bj w (bu E S L) (S.gh L) args vs)(he:FW m e k nid S args=some (x,wr)):
  Calls P f vs.toArray w (fun en w'=>∃v L',en= .returned v/\Rel E (S.fL wr) a w' L'/\bm w' (bu E (S.fL wr) L') ((S.fL wr).gh L') x v):=by
 unfold FW at he;split at he
 case h_2=>cases he
 rename_i r es' hmm;split at he
 case isFalse=>cases he
 rename_i hcond;obtain⟨rfl,rfl⟩:=bQ he;simp only[Qm,Qn]at hcond;obtain⟨hc2,hc3⟩:=hcond
 have key:∃X:Nat->Prop,(∀q,X q->q<w.heap.size)/\bj w X dw (args.map (TQ.fz S.H none 9)) vs/\(args.all PV.bE=true->∀q,bu E S L q->X q):=by
  by_cases hall:args.all PV.bE=true
  ·exact⟨bu E S L,fun q hq=>C0 h hq,hr.zM hall (fun q hq=>hq),fun _ q hq=>hq⟩
  ·exact⟨fun _=>False,fun _ hq=>hq.elim,hr.fz h (fun q hq=>hq.elim) (fun j q hj hjl hne hjb hq=>hq),fun hq=>absurd hq hall⟩
 obtain⟨X,hX,hargs,hsup⟩:=key;refine(hrow _ r es' hmm w X hX vs hargs).mono ?_;rintro en w' ⟨u,rfl,⟨us',hown',hk',hru'⟩,hub,hfr⟩
 have hst:args.all PV.bE=true->dW w' w' (Mv u X) (bu E {S with H:=bN S.H nid ⟨(S.H nid).av+1,.row e k es'⟩} (bN L nid u)):=by
  intro hall;refine(dW.of fun _ hnm=>fun hq=>hnm ?_)
  rcases hq with⟨j,hj,hjl,hjb⟩|hq
  ·simp only at hj hjl
   by_cases hji:j=nid
   ·subst hji;rw[cq]at hjb;exact .inl hjb
   ·rw[cP _ _ hji]at hjl hjb;exact .inr (hsup hall _ (.inl ⟨j,hj,hjl,hjb⟩))
  ·exact .inr (hsup hall _ (.inr hq))
 obtain⟨h2,hs2,hg2⟩:=h.uQ (w':=w') (hdr:=hfr.drawn) hn ⟨(S.H nid).av+1,.row e k es'⟩ u (.inr (Nat.lt_succ_self _)) hfr.os hfr.tape hfr.output hfr.size
  (fun q hq _=>hfr.block q hq (by simp)) (fun q _ hq=> .inr (hub q hq))
  (fun hs2 hg2=>⟨us',Ej (v:= .slice none 0 0) (World.ownsRow_nil w _ _ _) hown' h.fr.size (fun g hg=> .inr (hub g hg)),hk',by
   rcases hc3 with hpl|hall
   ·exact hru'.plain (EM hpl)
   ·exact hru'.mono (hst hall) (dw.le _)⟩)
 obtain⟨ad,n,c,hu⟩:=Hz hown';refine⟨u,_,rfl,h2,?_⟩;subst hu;exact .own _ _ _ _ _ hn (by simp[St.gh,St.fL,cq]) (fun _=>by simp[St.gh,St.fL,cq])
theorem bj.ae3{M:Nat->Prop}{G:Gh}{args:List PV}{vs:List Value}(hr:bj w M G args vs){p:Nat}{y:PV}(hp:args[p]?=some y):
  ∃v0,bm w M G y v0/\bj w M G (cutAt p args) (cutAt p vs)/\jF p [v0] (cutAt p vs)=vs:=by
 obtain⟨v0,hv0,hrep⟩:=hr.get hp;refine⟨v0,hrep,(hr.take p).append (hr.drop (p+1)),?_⟩;have hlt:p<vs.length:=(Qw.1 hv0).1;have ht:(vs.take p).length=p:=by simp;omega
 have e1:(cutAt p vs).take p=vs.take p:=by
  unfold cutAt;rw[List.take_append_of_le_length (by omega)]
  rw[List.take_take,Nat.min_self]
 have e2:(cutAt p vs).drop p=vs.drop (p+1):=by
  unfold cutAt;rw[List.drop_append_of_le_length (by omega)]
  rw[List.drop_of_length_le (by omega),List.nil_append]
 unfold jF;rw[e1,e2]
 have h3:vs.drop p=v0::vs.drop (p+1):=by
  rw[QM hlt];congr 1;rw[Qv hlt]at hv0;injection hv0
 rw[QL,List.singleton_append,<-h3,List.take_append_drop]
theorem Ra(hΓ:oP P Γ)(h:Rel E S a w L)(hn:nid<S.N){f:FuncId}{args:List PV}{vs:List Value}(hr:bj w (bu E S L) (S.gh L) args vs)(he:nu Γ nid S f args=some (x,wr)):
  Enters P f/\Calls P f vs.toArray w (fun e w'=>∃v L',e= .returned v/\Rel E (S.fL wr) a w' L'/\bm w' (bu E (S.fL wr) L') ((S.fL wr).gh L') x v):=by
 unfold nu at he;split at he
 ·cases he
 ·rename_i m hm;obtain⟨hen,hcon,hconN,hrow,hro⟩:=hΓ f m hm;refine⟨hen,?_⟩;split at he
  ·rename_i e k hrk;rw[Hp,hrk]at hrow;exact agL hrow h hr he
  ·rename_i e k hrk;rw[Hp,hrk]at hrow;exact agJ hrow h hr he
  ·rename_i e k hrk;rw[Hp,hrk]at hrow;exact agy hrow h hn hr he
  split at he
  ·rename_i hfresh;split at he
   ·rename_i r0 cs hmm;split at he
    ·rename_i hcond;obtain⟨rfl,rfl⟩:=bQ he;simp only[Qm,Qn]at hcond;obtain⟨hc1,hc2⟩:=hcond
     have key:∃X:Nat->Prop,(∀q,X q->q<w.heap.size)/\bj w X dw (args.map (TQ.fz S.H none 9)) vs/\(args.all PV.bE=true->∀q,bu E S L q->X q):=by
      by_cases hall:args.all PV.bE=true
      ·exact⟨bu E S L,fun q hq=>C0 h hq,hr.zM hall (fun q hq=>hq),fun _ q hq=>hq⟩
      ·exact⟨fun _=>False,fun _ hq=>hq.elim,hr.fz h (fun q hq=>hq.elim) (fun j q hj hjl hne hjb hq=>hq),fun hq=>absurd hq hall⟩
     obtain⟨X,hX,hargs,hsup⟩:=key;refine(hconN hfresh _ _ _ hmm w X hX vs hargs).mono ?_;rintro e w' ⟨b,rvs,T,rfl,hbge,hh,hrc,hfr⟩
     have hmq:args.all PV.bE=true->∀q,bu E {S with H:=bN S.H nid ⟨(S.H nid).av+1,.box cs⟩} (bN L nid (.pointer (some ⟨b,0,none⟩))) q->X q\/q=b:=by
      rintro hall q (⟨j,hj,hjl,hjb⟩|hq)
      ·simp only at hj hjl
       by_cases hji:j=nid
       ·subst hji;rw[cq]at hjb;simp only[cp,Qf]at hjb;exact .inr hjb.symm
       ·rw[cP _ _ hji]at hjl hjb;exact .inl (hsup hall q (.inl ⟨j,hj,hjl,hjb⟩))
      ·exact .inl (hsup hall q (.inr hq))
     obtain⟨h2,hs2,hg2⟩:=h.uQ (w':=w') (hdr:=hfr.drawn) hn ⟨(S.H nid).av+1,.box cs⟩ (.pointer (some ⟨b,0,none⟩)) (.inr (Nat.lt_succ_self _)) hfr.os hfr.tape hfr.output hfr.size (fun q hq _=>hfr.block q hq (by simp))
      (fun q _ hq=> .inr (by simp only[cp,Qf]at hq;omega))
      (fun hs2 hg2=>⟨b,rvs.toArray,T,rfl,hh,.inr (QK h.fr.size hbge),by
       simp only;rcases hc2 with hpl|hall
       ·exact hrc.plain hpl
       ·exact hrc.mono (dW.of fun _ hn' hq=>hn' (hmq hall _ hq)) (dw.le _)⟩)
     refine⟨_,_,rfl,h2,?_⟩;exact .ptr _ _ _ _ hn (by simp[St.gh,St.fL,cq]) (fun _=>by simp[St.gh,St.fL,cq,cp])
    ·cases he
   ·cases he
  rename_i hnf;have hnf':m.fresh=false:=by simpa using hnf
  have hcon:=hcon hnf';split at he
  ·rename_i hrecv;split at he
   ·rename_i id av hpos;generalize hrest:cutAt m.pos args=rest at he;split at he
    ·rename_i hver;split at he
     ·rename_i cs hc;split at he
      ·rename_i hcl;split at he
       ·rename_i r cs' hmm;split at he
        ·rename_i hcond;obtain⟨rfl,rfl⟩:=bQ he
         have hwr:S.fL (if(m.ro&&cs.all PV.Ul)=true then none else some (id,(⟨av,.box cs'⟩:gp)))=S.fL (some (id,⟨av,.box cs'⟩)):=by
          split
          ·rename_i hq;rw[Qm]at hq
           have e1:cs.map TQ.nz=cs:=by
            rw[Qq71 (g:=fun y=>y) fun y hy=>by have:=QH.1 hq.2 y hy;cases y<;>first|rfl|cases this]
            simp
           have e2:=hro hq.1 _ _ _ _ hmm;rw[e1]at e2;rw[e2];show S={S with H:=bN S.H id ⟨av,.box cs⟩}
           have e3:(⟨av,.box cs⟩:gp)=S.H id:=by rw[<-hver,<-hc]
           rw[e3]
           have e4:bN S.H id (S.H id)=S.H:=by
            funext j;unfold bN;split
            ·rename_i e;rw[e]
            ·rfl
           rw[e4]
          ·rfl
         rw[hwr];simp only[Qm,Qn]at hcond;obtain⟨⟨⟨hc1,hc2⟩,hc3⟩,hc4⟩:=hcond;obtain⟨v0,r0,hr',hins⟩:=hr.ae3 hpos;rw[hrest]at hr';generalize cutAt m.pos vs=vs' at hr' hins;obtain⟨hN,_⟩:=r0.ud (show(S.gh L).V id=av from hver)
         obtain⟨b,hv0,hL⟩:=h.uU r0 hver hc;obtain⟨b',cur,T,hL',hh,hrc,hE⟩:=h.tQ hN hc;rw[hL]at hL';simp only[Value.pointer.injEq,Qf,Addr.mk.injEq]at hL';obtain⟨rfl,_⟩:=hL';have hmb:bu E S L b:= .inl ⟨id,hN,by rw[hc];rfl,by rw[hL];rfl⟩
         have key:∃X:Nat->Prop,(∀q,X q->q<w.heap.size)/\(∀q,Mc true b X q->bu E S L q)/\bj w (Mc true b X) dw (rest.map (TQ.fz S.H (some id) 9)) vs'/\(rest.all PV.bE=true->∀q,bu E S L q->Mc true b X q):=by
          by_cases hall:rest.all PV.bE=true
          ·refine⟨bu E S L,fun q hq=>C0 h hq,fun q hq=> ?_,?_,fun _ q hq=> .inr hq⟩
           ·rcases hq with⟨_,rfl⟩|hq
            ·exact hmb
            ·exact hq
           ·exact hr'.zM hall (fun q hq=>by
             rcases hq with⟨_,rfl⟩|hq
             ·exact hmb
             ·exact hq)
          ·refine⟨fun _=>False,fun _ hq=>hq.elim,fun q hq=> ?_,?_,fun hq=>absurd hq hall⟩
           ·rcases hq with⟨_,rfl⟩|hq
            ·exact hmb
            ·exact hq.elim
           ·refine hr'.fz h (fun q hq=> ?_) (fun j q hj hjl hne hjb hq=> ?_)
            ·rcases hq with⟨_,rfl⟩|hq
             ·exact hmb
             ·exact hq.elim
            ·rcases hq with⟨_,rfl⟩|hq
             ·exact hne (by rw[h.apart j id q hj hN hjl (by rw[hc];rfl) hjb (by rw[hL];rfl)])
             ·exact hq
         obtain⟨X,hX,hsub,hargs,hsup⟩:=key;have hcall:=hcon (cs.map TQ.nz) (rest.map (TQ.fz S.H (some id) 9)) r cs' hmm w X hX b T cur.toList vs' (fun _=>⟨by simpa using hh,by rw[hrecv];exact(hrc.closed hcl hsub).nz⟩) (by rw[hrecv];exact hargs)
         rw[hrecv]at hcall;have hargsv:(jF m.pos (uB true b) vs').toArray=vs.toArray:=by rw[<-hins,hv0];rfl
         rw[hargsv]at hcall;refine hcall.mono ?_;rintro e w' ⟨v,rvs',rfl,hrep,hrv,hfr⟩;obtain⟨⟨T',hh'⟩,hrc'⟩:=hrv rfl;simp only[Qt]at hfr
         have hmm':∀q,bu E {S with H:=bN S.H id ⟨av,.box cs'⟩} (bN L id (L id)) q->bu E S L q:=by
          rintro q (⟨j,hj,hjl,hjb⟩|hq)
          ·simp only at hj hjl;have:bN L id (L id) j=L j:=by by_cases hji:j=id<;>simp[bN,hji]
           rw[this]at hjb
           by_cases hji:j=id
           ·subst hji;exact .inl ⟨j,hj,by rw[hc];rfl,hjb⟩
           ·rw[cP _ _ hji]at hjl;exact .inl ⟨j,hj,hjl,hjb⟩
          ·exact .inr hq
         have hst:rest.all PV.bE=true->dW w' w' (Mc true b X) (bu E {S with H:=bN S.H id ⟨av,.box cs'⟩} (bN L id (L id))):=fun hall=>(dW.of fun _ hnm=>fun hq=>hnm (hsup hall _ (hmm' _ hq)))
         obtain⟨h2,hs2,hg2⟩:=h.uQ (w':=w') (hdr:=hfr.drawn) hN ⟨av,.box cs'⟩ (L id) (.inl ⟨hver.symm,rfl,by rw[hc];rfl⟩) hfr.os hfr.tape hfr.output hfr.size
          (fun q hq hne=>hfr.block q hq (fun eq=>hne (by rw[hc];rfl) (by rw[hL];exact eq)))
          (fun q _ hq=> .inl ⟨by rw[hc];rfl,hq⟩)
          (fun hs2 hg2=>⟨b,rvs'.toArray,T',hL,hh',hE,by
           simp only;rcases hc4 with hpl|hall
           ·exact hrc'.plain hpl
           ·exact hrc'.mono (hst hall) (dw.le _)⟩)
         refine⟨v,_,rfl,h2,?_⟩;rcases hc1 with hpl|hall
         ·exact hrep.uV hpl
         ·exact hrep.mono (hst hall) (dw.le _)
        ·cases he
       ·cases he
      ·cases he
     ·cases he
    ·cases he
   ·cases he
  ·rename_i hrecv;split at he
   ·rename_i r cs' hmm;split at he
    ·rename_i hcond;obtain⟨rfl,rfl⟩:=bQ he;simp only[Qn,Qm]at hcond;have hrecv':m.recv=false:=by simpa using hrecv
     have key:∃X:Nat->Prop,(∀q,X q->q<w.heap.size)/\bj w (Mc false 0 X) dw (args.map (TQ.fz S.H none 9)) vs/\(args.all PV.bE=true->∀q,bu E S L q->Mc false 0 X q):=by
      by_cases hall:args.all PV.bE=true
      ·refine⟨bu E S L,fun q hq=>C0 h hq,?_,fun _ q hq=> .inr hq⟩
       exact hr.zM hall (fun q hq=>by
        rcases hq with⟨hq,_⟩|hq
        ·cases hq
        ·exact hq)
      ·refine⟨fun _=>False,fun _ hq=>hq.elim,?_,fun hq=>absurd hq hall⟩
       refine hr.fz h (fun q hq=> ?_) (fun j q hj hjl hne hjb hq=> ?_)
       ·rcases hq with⟨hq,_⟩|hq
        ·cases hq
        ·exact hq.elim
       ·rcases hq with⟨hq,_⟩|hq
        ·cases hq
        ·exact hq
     obtain⟨X,hX,hargs,hsup⟩:=key;have hcall:=hcon [] (args.map (TQ.fz S.H none 9)) r cs' hmm w X hX 0 0 [] vs (fun hq=>by rw[hrecv']at hq;cases hq) (by rw[hrecv'];exact hargs)
     rw[hrecv']at hcall;simp only[uB,Qq,Qu,R4]at hcall;refine hcall.mono ?_;rintro e w' ⟨v,rvs',rfl,hrep,_,hfr⟩;simp only[Qq,Qu]at hfr;obtain⟨h2,hs2⟩:=h.grow (w':=w') hfr.os hfr.tape hfr.output hfr.size (fun q hq=>hfr.block q hq (by simp)) hfr.drawn
     refine⟨v,L,rfl,h2,?_⟩;rcases hcond with hpl|⟨hall,_⟩
     ·exact hrep.uV hpl
     ·exact hrep.mono (dW.of fun _ hnm=>fun hq=>hnm (hsup hall _ hq)) (dw.le _)
    ·cases he
   ·cases he
end
end
section
open Go.RowKit
section
variable {P : Program} {E : En} {S : St} {a : Act} {w : World} {L : Nat -> Value} {o : Oper} {x : PV} {wr : Option (Nat × gp)} {Γ : pM} {nid : Nat} {hs : List Nat}
theorem Ga{α:Type}(f:Nat->α)(i:Nat):bN f i (f i)=f:=by
 funext j;unfold bN;split
 ·rename_i h;rw[h]
 ·rfl
theorem Rel.kill(h:Rel E S a w L){id:Nat}(hid:id<S.N)(hl:(S.H id).c.live=true):Rel E {S with H:=bN S.H id ⟨(S.H id).av,.dead⟩} a w L:=by
 have:=(h.uQ (w':=w) hid ⟨(S.H id).av,.dead⟩ (L id) (.inl ⟨rfl,rfl,hl⟩) rfl rfl rfl (QI _) (fun _ _ _=>rfl) (fun b hl=>by cases hl) (fun _ _=>trivial)).1
 rwa [Ga]at this
theorem Rel.agw(h:Rel E S a w L){id e k:Nat}{es:List (List PV)}(hN:id<S.N)(hc:(S.H id).c= .row e k es)(hcl:∀u∈es,u.all PV.closed=true):
  Rel E {S with H:=bN S.H id ⟨(S.H id).av,.dead⟩} a w L/\∀v,v=L id->bm w (bu E {S with H:=bN S.H id ⟨(S.H id).av,.dead⟩} L) (St.gh {S with H:=bN S.H id ⟨(S.H id).av,.dead⟩} L) (.sl es) v:=by
 have hlive:(S.H id).c.live=true:=by rw[hc];rfl
 refine⟨h.kill hN hlive,fun v hv=> ?_⟩
 obtain⟨vs,hown,hk,hr⟩:=h.k8 hN hc;rw[hv]
 have hM:∀b,bu E {S with H:=bN S.H id ⟨(S.H id).av,.dead⟩} L b->bu E S L b/\(cp (L id)=some b->E.X b):=by
  rintro b (⟨j,hj,hlv,hb⟩|hx)
  ·simp only at hj hlv
   by_cases hji:j=id
   ·subst hji;rw[cq]at hlv;cases hlv
   ·rw[cP _ _ hji]at hlv;exact⟨.inl ⟨j,hj,hlv,hb⟩,fun hb'=>absurd (h.apart j id b hj hN hlv hlive hb hb') hji⟩
  ·exact⟨.inr hx,fun _=>hx⟩
 rcases hown.2 with⟨hL,h0⟩|⟨g,cap,cur,hL,hb1,hh,hnc,hcm,_⟩
 ·have:es=[]:=Qq67 h0;subst this;rw[hL];exact .slnil
 ·rw[hL]
  have hcf:es.flatten.all PV.closed=true:=by
   refine QH.2 fun y hy=> ?_
   obtain⟨u,hu,hyu⟩:=List.mem_flatten.1 hy;exact QH.1 (hcl u hu) y hyu
  have hr2:=bj.closed (M':=bu E {S with H:=bN S.H id ⟨(S.H id).av,.dead⟩} L) (G':=dw) hcf (fun b hb=>(hM b hb).1) hr
  refine .sl _ _ _ k vs hk hr2.1 (fun i u hu=>⟨hown.cells (g:=g) (by rw[hL];rfl) i u hu,fun hm=> ?_⟩) hr2.2 (by simpa using hnc) hcm
  have hxg:=(hM g hm).2 (by rw[hL];rfl)
  have hbg:cp (L id)=some g:=by rw[hL];rfl
  rcases Gt hbg hb1 with⟨h6,h7⟩|h6
  ·exact E.UT h6 g h7 hxg
  ·have:=E.hX g hxg;omega
theorem Rel.Cq(h:Rel E S a w L){id e k:Nat}{es:List (List PV)}{v:Value}(r:bm w (bu E S L) (S.gh L) (.own id (S.H id).av) v)(hc:(S.H id).c= .row e k es)(hcl:∀u∈es,u.all PV.closed=true):
  Rel E {S with H:=bN S.H id ⟨(S.H id).av,.dead⟩} a w L/\bm w (bu E {S with H:=bN S.H id ⟨(S.H id).av,.dead⟩} L) (St.gh {S with H:=bN S.H id ⟨(S.H id).av,.dead⟩} L) (.sl es) v:=by
 obtain⟨hN,hv⟩:=r.nN (show(S.gh L).V id=(S.H id).av from rfl)
 obtain⟨h1,h2⟩:=h.agw hN hc hcl;exact⟨h1,h2 v hv⟩
theorem acy{e k b:Nat}{s y:bq}(he:exec Γ nid S (.c6 true e k b s y)=some (x,wr)):∃id av es,exec Γ nid S (.c6 false e k b s y)=some (.own id av,some (id,⟨av,.row e k es⟩))/\x= .sl es/\wr=some (id,⟨av,.dead⟩)/\∀u∈es,u.all PV.closed=true:=by
 have key:∀{id av:Nat} {es:List (List PV)},Jw true id av e k es=some (x,wr)->∃id' ver' es',Jw false id av e k es=some (.own id' ver',some (id',⟨ver',.row e k es'⟩))/\x= .sl es'/\wr=some (id',⟨ver',.dead⟩)/\∀u∈es',u.all PV.closed=true:=by
  intro id av es h;simp only[Jw]at h;split at h
  ·rename_i hall;obtain⟨rfl,rfl⟩:=bQ h;exact⟨id,av,es,rfl,rfl,rfl,fun u hu=>QH.1 hall u hu⟩
  ·cases h
 simp only[exec]at he ⊢;split at he
 ·rename_i news hn;split at he
  ·rename_i hall;simp only[hall,Qt];split at he
   ·split at he
    ·rename_i hb;rw[Qr hb];exact key he
    ·cases he
   ·rename_i id av hv;split at he
    ·rename_i hver;rw[Qr hver];split at he
     ·rename_i e' k' es hc;split at he
      ·rename_i hb;simp only[Qr hb];exact key he
      ·cases he
     ·cases he
    ·cases he
   ·cases he
  ·cases he
 ·cases he
theorem Good.Cq{id av e k:Nat}{es:List (List PV)}(h:Good P E S a w o (.own id av) (some (id,⟨av,.row e k es⟩)))(hcl:∀u∈es,u.all PV.closed=true):Good P E S a w o (.sl es) (some (id,⟨av,.dead⟩)):=by
 obtain⟨nx,w',L',v,h1,h2,h3,h4⟩:=h;have hH:(S.fL (some (id,⟨av,.row e k es⟩))).H id=⟨av,.row e k es⟩:=cq _ _ _;have hv:((S.fL (some (id,⟨av,.row e k es⟩))).H id).av=av:=by rw[hH]
 have hc:((S.fL (some (id,⟨av,.row e k es⟩))).H id).c= .row e k es:=by rw[hH]
 generalize hS:S.fL (some (id,⟨av,.row e k es⟩))=S1 at h3 h4 hH hv hc;rw[<-hv]at h3;obtain⟨g1,g2⟩:=h4.Cq h3 hc hcl;rw[hv,<-hS]at g1 g2
 have e1:({S.fL (some (id,⟨av,.row e k es⟩))with H:=bN (S.fL (some (id,⟨av,.row e k es⟩))).H id ⟨av,.dead⟩}:St)=S.fL (some (id,⟨av,.dead⟩)):=by
  unfold St.fL;simp only[St.mk.injEq,true_and,and_true]
  funext j
  unfold bN;split<;>rfl
 rw[e1]at g1 g2;exact⟨nx,w',L',v,h1,h2,g2,g1⟩
theorem sk{f:FuncId}(hen:Enters P f)(args:Array Value):(callFunc f args).run P w= .ok (.enter f args) w:=by
 obtain⟨fn,hf,hb,hn⟩:=hen;have hb':¬fn.body=none:=by intro e;rw[e]at hb;cases hb
 have hn':¬fn.name= "runtime.NumGoroutine":=by simpa using hn
 simp[callFunc,program,Sem.run,hf,hb',hn']
theorem P9{f:FuncId}{args:Array Value}(hrun:(execOp a.eval o).run P w= .ok (.enter f args) w)
  (hcall:Calls P f args w (fun e w'=>∃v L',e= .returned v/\Rel E (S.fL wr) a w' L'/\bm w' (bu E (S.fL wr) L') ((S.fL wr).gh L') x v)) (hnd:Kj o) (hd:∀t,o.dst=some t->E.can t) {K:Act->World->Prop} {Q:Exit->Act->World->Prop}
  (hK:∀a' w' L',Rel E (S.c6 o.dst x wr) a' w' L'->K a' w'):o.wpIn (WF E.rd) 0 P a w K Q:=by
 unfold Oper.wpIn;rw[Oper.semAt_eq _ _ _ hnd,hrun];refine⟨fun _ _=>trivial,(fun h=>by cases h),OJ.2 (Calls.mono hcall ?_)⟩
 rintro e w' ⟨v,L',rfl,h1,h2⟩;exact hK _ _ _ (show Rel E (S.c6 o.dst x wr) (a.put o.dst v) w' L' from h1.abF hd h2)
theorem E9{s:bO}(hc:Ll P hs o=some s):Kj o:=by
 intro c e;unfold Ll at hc;rw[e]at hc;cases hc
theorem YF(hΓ:oP P Γ){s:bO}(hc:Ll P hs o=some s)(h:Rel E S a w L)(hn:nid<S.N)(he:exec Γ nid S s=some (x,wr))(hd:∀t,o.dst=some t->E.can t){K:Act->World->Prop}{Q:Exit->Act->World->Prop}
  (hK:∀a' w' L',Rel E (S.c6 o.dst x wr) a' w' L'->K a' w'):o.wpIn (WF E.rd) 0 P a w K Q:=by
 have hnd:Kj o:=E9 hc;unfold Ll at hc;split at hc
 case h_1 y hop=>
  simp only[Qd,Qc,Qf]at hc;obtain⟨y',hy,rfl⟩:=hc;simp only[exec]at he;obtain⟨rfl,rfl⟩:=bQ he;exact(ade h (.inl hop) hy).wp hnd hd hK
 case h_2 y hop=>
  simp only[Qd,Qc,Qf]at hc;obtain⟨y',hy,rfl⟩:=hc;simp only[exec]at he;obtain⟨rfl,rfl⟩:=bQ he;exact(ade h (.inr hop) hy).wp hnd hd hK
 case h_3 c y z hop=>
  simp only[Qd,Qc,Qf]at hc;obtain⟨c',hc',y',hy,z',hz,rfl⟩:=hc;exact(agp h hop hc' hy hz he).wp hnd hd hK
 case h_4 t y hop=>
  simp only[Qd,Qc,Qf]at hc;obtain⟨y',hy,rfl⟩:=hc;split at he
  ·split at he
   ·exact(agu h hop hy he).wp hnd hd hK
   ·exact(adh h hn hop hy he).wp hnd hd hK
  ·exact(adh h hn hop hy he).wp hnd hd hK
 case h_5 t hop=>
  simp only[Qd,Qc,Qf]at hc;obtain⟨z,hz,rfl⟩:=hc;exact(aeL h hn hop hz he).wp hnd hd hK
 case h_6 t y hop=>
  simp only[Qd,Qc,Qf]at hc;obtain⟨n,hn',y',hy,rfl⟩:=hc;exact(agq h hop hn' hy he).wp hnd hd hK
 case h_7 t y z hop=>
  simp only[Qd,Qc,Qf]at hc;obtain⟨i,hi,y',hy,z',hz,rfl⟩:=hc;exact(aeG h hop hi hy hz he).wp hnd hd hK
 case h_8 t parts hop=>
  split at hc
  ·rename_i fields hu;simp only[Qd,Qc,Qf]at hc;obtain⟨z,hz,places,hp,ps,hps,rfl⟩:=hc;exact(Xk h hop hz (.inl ⟨fields,places,hu,hp,hps⟩) he).wp hnd hd hK
  ·rename_i n e hu;simp only[Qd,Qc,Qf]at hc;obtain⟨z,hz,i,hi,ps,hps,rfl⟩:=hc;exact(Xk h hop hz (.inr ⟨n,e,i,hu,hi,hps⟩) he).wp hnd hd hK
  ·cases hc
 case h_9 t len parts hop=>
  split at hc
  ·rename_i e hu;simp only[Qd,Qc]at hc;obtain⟨i,hi,z,hz,ps,hps,hc⟩:=hc;split at hc
   ·rename_i hb;injection hc with hc
    subst hc;exact(ahK h hn hop hu hi hz hps hb.1 hb.2.1 hb.2.2 he).wp hnd hd hK
   ·cases hc
  ·cases hc
 case h_10 s0 y f hop=>
  split at hc
  ·rename_i fields hu;simp only[Qd,Qc]at hc;obtain⟨fd,hf,i,hi,hc⟩:=hc;split at hc
   ·cases hc
   ·rename_i h0;simp only[Qc,Qf]at hc;obtain⟨y',hy,rfl⟩:=hc;exact(aeJ h hop hu hf hi h0 hy he).wp hnd hd hK
  ·cases hc
 case h_11 t y z hop=>
  split at hc
  ·rename_i e hu;simp only[Qd,Qc,Qf]at hc;obtain⟨i,hi,y',hy,z',hz,rfl⟩:=hc;exact(aeI h hop hu hi hy hz he).wp hnd hd hK
  ·rename_i n e hu;simp only[Qd,Qc,Qf]at hc;obtain⟨i,hi,y',hy,z',hz,rfl⟩:=hc;exact(aeM h hop hu hi hy hz he).wp hnd hd hK
  ·cases hc
 case h_12 op t y z t2 hop=>
  split at hc
  ·rename_i fs hu;split at hc
   ·rename_i f g hfs;split at hc
    ·rename_i k0 hf hg;split at hc
     ·rename_i hb;obtain⟨b1,b2,b3,b4,b5,b6⟩:=hb;split at hc
      ·simp only[Qd,Qc,Qf]at hc;obtain⟨y',hy,z',hz,rfl⟩:=hc;exact(adg (neg:=false) h (by simpa using hop) hu hfs hf hg b1 b2 b3 b4 b5 b6 hy hz he).wp hnd hd hK
      ·simp only[Qd,Qc,Qf]at hc;obtain⟨y',hy,z',hz,rfl⟩:=hc;exact(adg (neg:=true) h (by simpa using hop) hu hfs hf hg b1 b2 b3 b4 b5 b6 hy hz he).wp hnd hd hK
      ·cases hc
     ·cases hc
    ·split at hc
     ·rename_i ks hks;split at hc
      ·rename_i hgu;split at hc
       ·simp only[Qd,Qc,Qf]at hc;obtain⟨y',hy,z',hz,rfl⟩:=hc;exact(Tj (neg:=false) h (by simpa using hop) hu hks hgu hy hz he).wp hnd hd hK
       ·simp only[Qd,Qc,Qf]at hc;obtain⟨y',hy,z',hz,rfl⟩:=hc;exact(Tj (neg:=true) h (by simpa using hop) hu hks hgu hy hz he).wp hnd hd hK
       ·cases hc
      ·cases hc
     ·cases hc
   ·split at hc
    ·rename_i ks hks;split at hc
     ·rename_i hgu;split at hc
      ·simp only[Qd,Qc,Qf]at hc;obtain⟨y',hy,z',hz,rfl⟩:=hc;exact(Tj (neg:=false) h (by simpa using hop) hu hks hgu hy hz he).wp hnd hd hK
      ·simp only[Qd,Qc,Qf]at hc;obtain⟨y',hy,z',hz,rfl⟩:=hc;exact(Tj (neg:=true) h (by simpa using hop) hu hks hgu hy hz he).wp hnd hd hK
      ·cases hc
     ·cases hc
    ·cases hc
  ·rename_i e hu;split at hc
   ·split at hc
    ·simp only[Qd,Qc,Qf]at hc;obtain⟨y',hy,rfl⟩:=hc;exact(Xj (neg:=false) h (by simpa using hop) hu hy he).wp hnd hd hK
    ·simp only[Qd,Qc,Qf]at hc;obtain⟨y',hy,rfl⟩:=hc;exact(Xj (neg:=true) h (by simpa using hop) hu hy he).wp hnd hd hK
    ·cases hc
   ·cases hc
  ·rename_i hu;split at hc
   ·simp only[Qd,Qc,Qf]at hc;obtain⟨y',hy,z',hz,rfl⟩:=hc;exact(adf (neg:=false) h (by simpa using hop) hu hy hz he).wp hnd hd hK
   ·simp only[Qd,Qc,Qf]at hc;obtain⟨y',hy,z',hz,rfl⟩:=hc;exact(adf (neg:=true) h (by simpa using hop) hu hy hz he).wp hnd hd hK
   ·cases hc
  ·simp only[Qd,Qc,Qf]at hc;obtain⟨y',hy,z',hz,rfl⟩:=hc;exact(ahL h hop hy hz he).wp hnd hd hK
 case h_13 t y hop=>
  simp only[Qd,Qc,Qf]at hc;obtain⟨y',hy,rfl⟩:=hc;exact(ahE h hop hy he).wp hnd hd hK
 case h_14 src dst y hop=>
  split at hc
  ·rename_i k0 k hs ht;simp only[Qd,Qc,Qf]at hc;obtain⟨y',hy,rfl⟩:=hc;exact(agt h hop hs ht hy he).wp hnd hd hK
  ·cases hc
 case h_15 t y z hop=>
  split at hc
  ·rename_i hu;simp only[Qd,Qc,Qf]at hc;obtain⟨y',hy,z',hz,rfl⟩:=hc;exact(ago h hop hu hy hz he).wp hnd hd hK
  ·rename_i len e hu;simp only[Qd,Qc,Qf]at hc;obtain⟨n,hn,i,hi,y',hy,z',hz,rfl⟩:=hc;exact(agv h hop hu hn hi hy hz he).wp hnd hd hK
  ·cases hc
 case h_16 t y z ok hop=>
  split at hc
  ·rename_i kt vt hu;split at hc
   ·rename_i fs hkt;split at hc
    ·rename_i f g hfs;split at hc
     ·rename_i k0 l0 hf hg;split at hc
      ·rename_i hb;obtain⟨b1,b2,b3,b4,b5⟩:=hb;simp only[Qd,Qc,Qf]at hc;obtain⟨i,hi,z0,hz0,zv,hz,y',hy,z',hzz,rfl⟩:=hc;exact(ab2 h hop hu hkt hfs hf hg b1 b2 b3 b4 b5 hi hz0 hz hy hzz he).wp hnd hd hK
      ·cases hc
     ·cases hc
    ·cases hc
   ·cases hc
  ·cases hc
 case h_17 y hop=>
  simp only[Qd,Qc,Qf]at hc;obtain⟨y',hy,rfl⟩:=hc;exact(aeH h hop hy he).wp hnd hd hK
 case h_18 y i hop=>
  simp only[Qd,Qc,Qf]at hc;obtain⟨y',hy,rfl⟩:=hc;exact(ags h hop hy he).wp hnd hd hK
 case h_19 f first caps hop=>
  split at hc
  ·rename_i h0;simp only[Qd,Qc,Qf]at hc;obtain⟨cs,hcs,rfl⟩:=hc;exact(ahG h hop h0 hcs he).wp hnd hd hK
  ·split at hc
   ·rename_i h0;simp only[Qd,Qc,Qf]at hc;obtain⟨cs,hcs,rfl⟩:=hc;exact(ahH h hop h0 hcs he).wp hnd hd hK
   ·cases hc
 case h_20 t l c hop=>
  split at hc
  ·rename_i e hu;simp only[Qd,Qc]at hc;obtain⟨i,hi,hc⟩:=hc;split at hc
   ·rename_i h0;simp only[Qc,Qf]at hc;obtain⟨z,hz,l',hl,c',hc',rfl⟩:=hc;exact(ahF h hn hop hu hi h0 hz hl hc' he).wp hnd hd hK
   ·cases hc
  ·cases hc
 case h_21 t y lo hi hop=>
  split at hc
  ·rename_i e hu;simp only[Qd,Qc,Qf]at hc;obtain⟨i,hi0,y',hy,lo',hlo,hi',hhi,rfl⟩:=hc;exact(ahD h hop hu hi0 hy hlo hhi he).wp hnd hd hK
  ·cases hc
 case h_22 fop args ats hop=>
  simp only[Qd,Qc]at hc;obtain⟨xs,hxs,hc⟩:=hc;have hr:=h.dm hxs;have ha:args.map a.eval=(args.toList.map a.eval).toArray:=by rw[<-Array.toList_map,Array.toArray_toList]
  split at hc
  ·rename_i f;injection hc with hc
   subst hc;simp only[exec]at he;obtain⟨hen,hcall⟩:=Ra hΓ h hn hr he;exact P9 (by simp[execOp,hop,resolve,Act.eval,Deferred.ofValue,invoke,ha,sk hen]) hcall hnd hd hK
  ·simp only[Qc,Qf]at hc;obtain⟨fv,hfv,rfl⟩:=hc;have rf:=h.iO hfv;simp only[exec]at he;split at he
   ·rename_i f caps ef;rw[ef]at rf;obtain⟨vs,hv,hrc⟩:=rf.yP;obtain⟨hen,hcall⟩:=Ra hΓ h hn (hr.append hrc) he;refine P9 ?_ hcall hnd hd hK;simp only[execOp,hop,resolve,hv,Deferred.ofValue,Sem.run_bind,Sem.run_pure,Result.andThen_ok,invoke,ha];simp[sk hen]
   ·rename_i f caps ef;rw[ef]at rf;obtain⟨vs,hv,hrc⟩:=rf.Rb;obtain⟨hen,hcall⟩:=Ra hΓ h hn (hrc.append hr) he;refine P9 ?_ hcall hnd hd hK;simp only[execOp,hop,resolve,hv,Deferred.ofValue,Sem.run_bind,Sem.run_pure,Result.andThen_ok,invoke,ha];simp[sk hen]
   ·cases he
 case h_23 b args ats hop=>
  split at hc
  ·rename_i y t hargs hats;have ha:args=#[y]:=by rw[<-Array.toArray_toList (xs:=args),hargs]
   have hb:ats=#[t]:=by rw[<-Array.toArray_toList (xs:=ats),hats]
   subst ha hb;split at hc
   ·rename_i hu;simp only[Qd,Qc,Qf]at hc;obtain⟨y',hy,rfl⟩:=hc;exact(agr h hop hu hy he).wp hnd hd hK
   ·rename_i e hu;simp only[Qd,Qc,Qf]at hc;obtain⟨y',hy,rfl⟩:=hc;exact(ahI h hop hu hy he).wp hnd hd hK
   ·cases hc
  ·rename_i y z t t' hargs hats;have ha:args=#[y,z]:=by rw[<-Array.toArray_toList (xs:=args),hargs]
   have hb:ats=#[t,t']:=by rw[<-Array.toArray_toList (xs:=ats),hats]
   subst ha hb;split at hc
   ·rename_i e hu;simp only[Qd,Qc]at hc;obtain⟨i,hi,zv,hzv,hc⟩:=hc;split at hc
    ·rename_i hb;obtain⟨rfl,b2,b3⟩:=hb;simp only[Qc,Qf]at hc;obtain⟨y',hy,z',hz,rfl⟩:=hc
     cases hf:acO hs o with
     |false=>
      rw[hf]at he;exact(adi h hn hop hu hi hzv b2 b3 hy hz he).wp hnd hd hK
     |true=>
      rw[hf]at he;obtain⟨id,av,es,g1,rfl,rfl,g2⟩:=acy he;exact((adi h hn hop hu hi hzv b2 b3 hy hz g1).Cq g2).wp hnd hd hK
    ·cases hc
   ·cases hc
  ·rename_i y t hargs hats;have ha:args=#[y]:=by rw[<-Array.toArray_toList (xs:=args),hargs]
   have hb:ats=#[t]:=by rw[<-Array.toArray_toList (xs:=ats),hats]
   subst ha hb;split at hc
   ·rename_i e hu;simp only[Qd,Qc,Qf]at hc;obtain⟨i,hi,z,hz,y',hy,rfl⟩:=hc;exact(aeK h hop hu hi hz hy he).wp hnd hd hK
   ·cases hc
  ·rename_i y z hargs;have ha:args=#[y,z]:=by rw[<-Array.toArray_toList (xs:=args),hargs]
   subst ha;simp only[Qd,Qc,Qf]at hc;obtain⟨y',hy,z',hz,rfl⟩:=hc;exact(U1 (mx:=false) h (by simpa using hop) hy hz he).wp hnd hd hK
  ·rename_i y z hargs;have ha:args=#[y,z]:=by rw[<-Array.toArray_toList (xs:=args),hargs]
   subst ha;simp only[Qd,Qc,Qf]at hc;obtain⟨y',hy,z',hz,rfl⟩:=hc;exact(U1 (mx:=true) h (by simpa using hop) hy hz he).wp hnd hd hK
  ·cases hc
 case h_24 t y i hop=>
  split at hc
  ·rename_i fs hu;split at hc
   ·rename_i f hf;simp only[Qd,Qc,Qf]at hc;obtain⟨n,hn,y',hy,rfl⟩:=hc;exact(ahJ h hop hu hf hn hy he).wp hnd hd hK
   ·cases hc
  ·cases hc
 case h_25=>cases hc
end
end
section
open Go.RowKit
def xw(P:Program)(hs:List Nat)(ops:Array Oper)(o:Oper):Option SG:=
 match Ll P hs o with
 |none=>none
 |some s=>
  match o.guard with
  |none=>some ⟨o.dst,none,s⟩
  |some (j,want)=>
   match ops[j]? with
   |none=>none
   |some oj=>
    match oj.dst with
    |none=>none
    |some t=>some ⟨o.dst,some (t,want),s⟩
section
variable {P : Program} {E : En} {S : St} {a : Act} {w : World} {L : Nat -> Value} {Γ : pM} {hs : List Nat}
theorem Jo{ops:Array Oper}{o:Oper}{g:SG}(h:xw P hs ops o=some g):Ll P hs o=some g.op/\g.d=o.dst/\
  ((o.guard=none/\g.g=none)\/∃j want oj t,o.guard=some (j,want)/\ops[j]?=some oj/\oj.dst=some t/\g.g=some (t,want)):=by
 unfold xw at h;split at h
 ·cases h
 ·rename_i s hs;split at h
  ·rename_i hg;injection h with h
   subst h;exact⟨hs,rfl,.inl ⟨hg,rfl⟩⟩
  ·rename_i j want hg;split at h
   ·cases h
   ·rename_i oj hoj;split at h
    ·cases h
    ·rename_i t ht;injection h with h
     subst h;exact⟨hs,rfl,.inr ⟨j,want,oj,t,hg,hoj,ht,rfl⟩⟩
theorem Ri{ops:Array Oper}{o:Oper}{g:SG}(h:Rel E S a w L)(hc:xw P hs ops o=some g){b:Bool}(hw:g.wanted S=some b):Region.wanted o (yielded ops a.tmps)=b:=by
 obtain⟨_,_,hg⟩:=Jo hc;unfold SG.wanted at hw;rcases hg with⟨h1,h2⟩|⟨j,want,oj,t,h1,h2,h3,h4⟩
 ·rw[h2]at hw;injection hw with hw
  subst hw;simp[Region.wanted,h1]
 ·rw[h4]at hw;simp only at hw;have he:=h.env t;split at hw
  ·rename_i b' eb;rw[eb]at he;have hv:=he.og;injection hw with hw
   subst hw
   have:a.tmps[t]?=some (.bool b'):=by
    rw[QN]at hv
    cases hq:a.tmps[t]? with
    |none=>rw[hq]at hv;simp[undef]at hv
    |some v=>rw[hq]at hv;simp at hv;rw[hv]
   simp[Region.wanted,h1,yielded,h2,h3,this]
  ·rename_i eb;rw[eb]at he;have hv:=he.Zr;injection hw with hw
   subst hw
   have:yielded ops a.tmps j=none:=by
    simp only[yielded,h2,h3,Qa];rw[QN]at hv
    cases hq:a.tmps[t]? with
    |none=>rfl
    |some v=>rw[hq]at hv;simp at hv;rw[hv];rfl
   simp[Region.wanted,h1,this]
  ·cases hw
theorem yI(hΓ:oP P Γ){ops:Array Oper}{o:Oper}{g:SG}(hc:xw P hs ops o=some g)(h:Rel E S a w L){nid:Nat}(hn:nid<S.N)(hd:∀t,o.dst=some t->E.can t){S':St}(hs:xf Γ nid S g=some S'){K:Act->World->Prop}{Q:Exit->Act->World->Prop}
  (hK:∀a' w' L',Rel E S' a' w' L'->K a' w'):if Region.wanted o (yielded ops a.tmps)=true then o.wpIn (WF E.rd) 0 P a w K Q else(∀f,o.about P w a.eval=some f->(WF E.rd).fn f)/\K (a.put o.dst undef) w:=by
 obtain⟨hcop,hgd,_⟩:=Jo hc;unfold xf at hs;split at hs
 ·rename_i hw;rw[Ri h hc hw,Qr rfl];simp only[Qb]at hs;obtain⟨⟨x,wr⟩,he,rfl⟩:=hs;rw[hgd]at hK;exact YF hΓ hcop h hn he hd hK
 ·rename_i hw;rw[Ri h hc hw,Qs (by simp)]
  injection hs with hs
  subst hs;rw[hgd]at hK;exact⟨fun _ _=>trivial,hK _ _ _ (h.abF hd .undef)⟩
 ·cases hs
theorem acT{nid:Nat}{g:SG}{S':St}(hs:xf Γ nid S g=some S'):S'.N=S.N:=by
 unfold xf at hs;split at hs
 ·simp only[Qb]at hs;obtain⟨p,_,rfl⟩:=hs;rfl
 ·injection hs with hs;subst hs;rfl
 ·cases hs
theorem Gs(hΓ:oP P Γ){ops:Array Oper}:∀(l:List Oper) (gs:List SG) (nid:Nat) (S S':St) (a:Act) (w:World) (L:Nat->Value),l.mapM (xw P hs ops)=some gs->Rel E S a w L->nid+l.length<=S.N->
  (∀o∈l,∀t,o.dst=some t->E.can t)->B5 Γ nid gs S=some S'->∀{Q:Exit->Act->World->Prop},(∀a' w' L',Rel E S' a' w' L'->Q .normal a' w')->wpListIn (WF E.rd) 0 P ops Q l a w
 |[],gs,nid,S,S',a,w,L,hm,h,hN,hd,hr,Q,hQ=>by
  simp at hm;subst hm;simp only[B5,Qf]at hr;subst hr;exact hQ a w L h
 |o::l,gs,nid,S,S',a,w,L,hm,h,hN,hd,hr,Q,hQ=>by
  simp only[Qq75,Qd,Qc,Option.pure_def,Qf]at hm;obtain⟨g,hg,gs',hgs,rfl⟩:=hm;simp only[B5]at hr;split at hr
  ·rename_i S1 hs;refine wpListIn_step fun K hK=> ?_
   refine yI hΓ hg h (by simp at hN;omega) (hd o (by simp)) hs (fun a' w' L' h'=>hK _ _ ?_)
   exact Gs hΓ l gs' (nid+1) S1 S' a' w' L' hgs h' (by rw[acT hs];simp at hN;omega) (fun o' ho'=>hd o' (by simp[ho'])) hr hQ
  ·cases hr
inductive SC where
 |skip
 |ze (ops:List SG)
 |vr (un:List (Nat×Nat)) (ops:List SG)
 |seq (x y:SC)
 |cond (c:bq) (x y:SC)
 |block (id:Nat) (c:SC)
 |loop (c:SC)
 |Hv (g:bq) (ps:List Nat) (x y:SC)
 |exit (id:Nat)
 |ret
def mq:Code->List Nat
 | .region _ ops _=>ops.toList.filterMap (·.dst)
 | .seq x y| .cond _ x y=>mq x++mq y
 | .block _ c| .loop c=>mq c
 | .rangeFunc _ ps x y=>ps.toList++mq x++mq y
 |_=>[]
def B9:Code->Bool
 | .seq x y| .cond _ x y=>B9 x&&B9 y
 | .block _ c| .loop c=>B9 c
 | .rangeFunc ..=>false
 |_=>true
def EG(E:En)(c:Code):Prop:=(∀t∈mq c,E.kt t=none)/\((E.rd=none/\E.nd=false)\/B9 c=true)
theorem EG.aiH{E:En}{x y:Code}(h:EG E (.seq x y)):EG E x:=⟨fun t ht=>h.1 t (List.mem_append_left _ ht),h.2.imp id fun e=>by simp only[B9,Qm]at e;exact e.1⟩
theorem EG.aiG{E:En}{x y:Code}(h:EG E (.seq x y)):EG E y:=⟨fun t ht=>h.1 t (List.mem_append_right _ ht),h.2.imp id fun e=>by simp only[B9,Qm]at e;exact e.2⟩
theorem EG.adn{E:En}{c:Operand}{x y:Code}(h:EG E (.cond c x y)):EG E x:=⟨fun t ht=>h.1 t (List.mem_append_left _ ht),h.2.imp id fun e=>by simp only[B9,Qm]at e;exact e.1⟩
theorem EG.adm{E:En}{c:Operand}{x y:Code}(h:EG E (.cond c x y)):EG E y:=⟨fun t ht=>h.1 t (List.mem_append_right _ ht),h.2.imp id fun e=>by simp only[B9,Qm]at e;exact e.2⟩
theorem aaO{E:En}{id:Nat}{ops:Array Oper}{d:Bool}{nt:Nat}(hE:E.nt=nt)(hk:EG E (.region id ops d))(hd:∀o∈ops.toList,∀t,o.dst=some t->t<nt):∀o∈ops.toList,∀t,o.dst=some t->E.can t:=
 fun o ho t ht=>⟨by rw[hE];exact hd o ho t ht,hk.1 t (List.mem_filterMap.2 ⟨o,ho,ht⟩)⟩
def V(P:Program)(nt:Nat)(c:Code)(Q:Exit->St->Prop)(S:St):Prop:=
 ∀(E:En),E.nt=nt->EG E c->∀(a:Act) (w:World) (L:Nat->Value),Rel E S a w L->c.wpIn (WF E.rd) 0 P (fun e a' w'=>∃S' L',Rel E S' a' w' L'/\Q e S') a w
theorem V.mono{nt:Nat}{c:Code}{Q Q':Exit->St->Prop}(h:V P nt c Q S)(hq:∀e S,Q e S->Q' e S):V P nt c Q' S:=
 fun E hE hk a w L hr=>wpIn_mono (h E hE hk a w L hr) fun _ _ _ ⟨S',L',h1,h2⟩=>⟨S',L',h1,hq _ _ h2⟩
def Pd(K:St->Prop)(Q:Exit->St->Prop):Exit->St->Prop
 | .normal,S=>K S
 | .exit i,S=>Q (.exit i) S
 | .goto l,S=>Q (.goto l) S
 | .ret,S=>Q .ret S
 | .panic c,S=>Q (.panic c) S
 | .outgrown,S=>Q .outgrown S
def FX(id:Nat)(Q:Exit->St->Prop):Exit->St->Prop
 | .exit i,S=>if i=id then Q .normal S else Q (.exit i) S
 | .normal,S=>Q .normal S
 | .goto l,S=>Q (.goto l) S
 | .ret,S=>Q .ret S
 | .panic c,S=>Q (.panic c) S
 | .outgrown,S=>Q .outgrown S
theorem agM{nt:Nat}{Q:Exit->St->Prop}(h:Q .normal S):V P nt .skip Q S:=fun _ _ _ _ _ L hr=>wpIn_skip ⟨S,L,hr,h⟩
theorem agN{nt id:Nat}{Q:Exit->St->Prop}(h:Q (.exit id) S):V P nt (.exit id) Q S:=fun _ _ _ _ _ L hr=>wpIn_exit ⟨S,L,hr,h⟩
theorem ahZ{nt:Nat}{Q:Exit->St->Prop}(h:Q .ret S):V P nt .ret Q S:=fun _ _ _ _ _ L hr=>wpIn_ret ⟨S,L,hr,h⟩
theorem ahY{nt:Nat}{x y:Code}{Q:Exit->St->Prop}(h:V P nt x (Pd (V P nt y Q) Q) S):V P nt (.seq x y) Q S:=fun E hE hk a w L hr=>
 wpIn_seq (wpIn_mono (h E hE hk.aiH a w L hr) fun e a' w' ⟨S',L',h1,h2⟩=>by
  cases e with
  |normal=>exact h2 E hE hk.aiG a' w' L' h1
  |exit i=>exact⟨S',L',h1,h2⟩
  |goto l=>exact⟨S',L',h1,h2⟩
  |ret=>exact⟨S',L',h1,h2⟩
  |panic c=>exact⟨S',L',h1,h2⟩
  |outgrown=>exact⟨S',L',h1,h2⟩)
theorem agO{nt:Nat}{c:Operand}{c':bq}{x y:Code}{b:Bool}{Q:Exit->St->Prop}(hc:bB c=some c')(hb:c'.val S= .bool b)(h:V P nt (if b then x else y) Q S):V P nt (.cond c x y) Q S:=fun E hE hk a w L hr=>by
 have:=hr.iO hc;rw[hb]at this
 exact wpIn_cond this.og (h E hE (by
  cases b
  ·exact hk.adm
  ·exact hk.adn) a w L hr)
theorem afh{nt id:Nat}{c:Code}{Q:Exit->St->Prop}(h:V P nt c (FX id Q) S):V P nt (.block id c) Q S:=fun E hE hk a w L hr=>
 wpIn_block (wpIn_mono (h E hE hk a w L hr) fun e a' w' ⟨S',L',h1,h2⟩=>by
  cases e with
  |exit i=>
   simp only[FX]at h2;simp only[Exit.inBlock];split
   ·rename_i hi;rw[Qr hi]at h2;exact⟨S',L',h1,h2⟩
   ·rename_i hi;rw[Qs hi]at h2;exact⟨S',L',h1,h2⟩
  |normal=>exact⟨S',L',h1,h2⟩
  |goto l=>exact⟨S',L',h1,h2⟩
  |ret=>exact⟨S',L',h1,h2⟩
  |panic c=>exact⟨S',L',h1,h2⟩
  |outgrown=>exact⟨S',L',h1,h2⟩)
theorem xm{α β:Type}{f:α->Option β}:∀{l:List α} {r:List β},l.mapM f=some r->r.length=l.length
 |[],r,h=>by simp at h;subst h;rfl
 |x::l,r,h=>by
  simp only[Qq75,Qd,Qc,Option.pure_def,Qf]at h;obtain⟨y,_,ys,hys,rfl⟩:=h;simp[xm hys]
def PV.lG(n:Nat):PV->Bool
 | .own id _| .ptr id _ _| .fg id _ _ _ _| .view id _ _ _ _=>decide (id<n)
 | .agg _| .eo _| .bG _ _| .jN _ _=>false
 |_=>true
def PV.under(n:Nat):PV->Bool
 | .agg cs| .eo cs| .bG _ cs| .jN _ cs=>cs.all (PV.lG n)
 |x=>x.lG n
def yD.under(n:Nat):yD->Bool
 | .dead=>true
 | .box cs=>cs.all (PV.under n)
 | .row _ _ es=>es.all fun e=>e.all (PV.under n)
theorem bm.lG{M M':Nat->Prop}{G G':Gh}{x:PV}{v:Value}(hx:x.lG G'.N=true)(hM:∀b,M' b->M b)(hL:G'.L=G.L)(hV:∀id,id<G'.N->G'.V id=G.V id)(h:bm w M G x v):bm w M' G' x v:=by
 have hs:dW w w M M':=(dW.of fun _ hm=>fun h'=>hm (hM _ h'))
 cases h with
 |any=>exact .any _
 |undef=>exact .undef
 |int=>exact .int _ _
 |bool=>exact .bool _
 |gS=>first|exact .gS _|simp[PV.closed]at hc
 |str=>exact .str _
 |lz=>exact .lz
 |et=>exact .et
 |bG=>simp[PV.lG]at hx
 |jN=>simp[PV.lG]at hx
 |agg=>simp[PV.lG]at hx
 |eo=>simp[PV.lG]at hx
 |ptr id av off a hN hVe h=>simp only[PV.lG,Qi]at hx;exact .ptr _ _ _ _ hx (by rw[hV id hx];exact hVe) (fun e=>by rw[hL];exact h (by rw[e,hV id hx]))
 |ref cs ad vs hl hcell h=>exact .ref cs ad vs hl (fun i u hu=>⟨(hcell i u hu).1,fun h'=>(hcell i u hu).2 (hM _ h')⟩) (fun i p u hp hu=>(h i p u hp hu).mono hs (Gh.le.refl _))
 |sl es ad c k vs hk hl hcell h hn hm=>exact .sl es ad c k vs hk hl (fun i u hu=>⟨(hcell i u hu).1,fun h'=>(hcell i u hu).2 (hM _ h')⟩) (fun i p u hp hu=>(h i p u hp hu).mono hs (Gh.le.refl _)) hn hm
 |slnil=>exact .slnil
 |own id av a n c hN hVe h=>simp only[PV.lG,Qi]at hx;exact .own _ _ _ _ _ hx (by rw[hV id hx];exact hVe) (fun e=>by rw[hL];exact h (by rw[e,hV id hx]))
 |fg id av k i off a hN hVe h=>simp only[PV.lG,Qi]at hx;exact .fg _ _ _ _ _ _ hx (by rw[hV id hx];exact hVe) (fun e=>by rw[hL];exact h (by rw[e,hV id hx]))
 |view id av k lo n a c hN hVe h=>simp only[PV.lG,Qi]at hx;exact .view _ _ _ _ _ _ _ hx (by rw[hV id hx];exact hVe) (fun e=>by rw[hL];exact h (by rw[e,hV id hx]))
 |jc ks us b es ck hb hMb hk hv h1 h2=>exact .jc ks us b es ck hb (fun h'=>hMb (hM _ h')) hk hv (fun i p e hp he=>(h1 i p e hp he).mono hs (Gh.le.refl _)) (fun i p e hp he=>(h2 i p e hp he).mono hs (Gh.le.refl _))
theorem bm.under{M M':Nat->Prop}{G G':Gh}{x:PV}{v:Value}(hx:x.under G'.N=true)(hM:∀b,M' b->M b)(hL:G'.L=G.L)(hV:∀id,id<G'.N->G'.V id=G.V id)(h:bm w M G x v):bm w M' G' x v:=by
 have go:∀{cs:List PV} {vs:List Value},cs.all (PV.lG G'.N)=true->bj w M G cs vs->bj w M' G' cs vs:=fun hc h=>⟨h.1,fun i y v hy hv=>(h.2 i y v hy hv).lG (QH.1 hc y (Q8 hy)) hM hL hV⟩
 cases x with
 |agg cs=>obtain⟨vs,rfl,hr⟩:=h.pd;have:=go (by simpa[PV.under]using hx) hr;exact .agg _ _ this.1 this.2
 |eo cs=>obtain⟨vs,rfl,hr⟩:=h.Fi;have:=go (by simpa[PV.under]using hx) hr;exact .eo _ _ this.1 this.2
 |bG f cs=>obtain⟨vs,rfl,hr⟩:=h.yP;have:=go (by simpa[PV.under]using hx) hr;exact .bG _ _ _ this.1 this.2
 |jN f cs=>obtain⟨vs,rfl,hr⟩:=h.Rb;have:=go (by simpa[PV.under]using hx) hr;exact .jN _ _ _ this.1 this.2
 |_=>exact h.lG (by simpa[PV.under]using hx) hM hL hV
def St.cut(S:St)(ts:List Nat)(n:Nat):St:=
 {env:=fun t=>if t∈ts then S.env t else .any,H:=fun id=>if id<n then S.H id else⟨0,.dead⟩,N:=n}
structure Ze (S:St) (ts:List Nat) (n:Nat):Prop where
 N:n<=S.N
 env:∀t∈ts,(S.env t).under n=true
 H:∀id,id<n->(S.H id).c.under n=true
theorem Rel.cut(h:Rel E S a w L){ts:List Nat}{n:Nat}(hc:Ze S ts n):Rel E (S.cut ts n) a w L:=by
 have hM:∀b,bu E (S.cut ts n) L b->bu E S L b:=by
  rintro b (⟨id,hid,hl,hb⟩|hb)
  ·simp only[St.cut]at hid hl;rw[Qr hid]at hl;exact .inl ⟨id,QJ hid hc.N,hl,hb⟩
  ·exact .inr hb
 have hV:∀id,id<((S.cut ts n).gh L).N->((S.cut ts n).gh L).V id=(S.gh L).V id:=fun id hid=>by
  simp only[St.gh,St.cut]at hid ⊢;rw[Qr hid]
 have go:∀{cs:List PV} {vs:List Value},(∀y∈cs,y.under n=true)->bj w (bu E S L) (S.gh L) cs vs->bj w (bu E (S.cut ts n) L) ((S.cut ts n).gh L) cs vs:=fun hc h=>
  ⟨h.1,fun i y v hy hv=>bm.under (G:=S.gh L) (G':=(S.cut ts n).gh L) (hc y (Q8 hy)) hM rfl hV (h.2 i y v hy hv)⟩
 refine⟨h.defers,h.size,fun t=> ?_,fun id hid=> ?_,fun i j b hi hj hli hlj hbi hbj=> ?_,fun id hid=> ?_,h.fr,fun hb hlv hvr=> ?_⟩
 ·by_cases ht:t∈ts
  ·have e:(S.cut ts n).env t=S.env t:=by simp[St.cut,ht]
   rw[e];exact bm.under (G:=S.gh L) (G':=(S.cut ts n).gh L) (hc.env t ht) hM rfl hV (h.env t)
  ·have e:(S.cut ts n).env t= .any:=by simp[St.cut,ht]
   rw[e];exact .any _
 ·simp only[St.cut]at hid;have hc':((S.cut ts n).H id).c=(S.H id).c:=by simp[St.cut,hid]
  rw[hc'];have ho:=h.obj id (QJ hid hc.N);have hb:=hc.H id hid
  cases hcc:(S.H id).c with
  |dead=>trivial
  |box cs=>
   rw[hcc]at ho hb;obtain⟨b,cur,T,h1,h2,h3,h4⟩:=ho;exact⟨b,cur,T,h1,h2,h3,go (fun y hy=>QH.1 hb y hy) h4⟩
  |row e k es=>
   rw[hcc]at ho hb;obtain⟨vs,h1,h2,h3⟩:=ho;refine⟨vs,h1,h2,go (fun y hy=> ?_) h3⟩
   obtain⟨l,hl,hyl⟩:=List.mem_flatten.1 hy;exact QH.1 (QH.1 hb l hl) y hyl
 ·simp only[St.cut]at hi hj hli hlj;rw[Qr hi]at hli;rw[Qr hj]at hlj;exact h.apart i j b (QJ hi hc.N) (QJ hj hc.N) hli hlj hbi hbj
 ·simp only[St.cut]at hid ⊢;rw[Qs (by omega)]
 ·simp only[St.cut]at hlv hvr
  by_cases hn0:0<n
  ·rw[Qr hn0]at hlv hvr;exact h.De hb hlv hvr
  ·rw[Qs hn0]at hlv;cases hlv
def ahz(ts:List Nat)(n:Nat)(I:Nat->St->Prop)(m:Nat)(Q:Exit->St->Prop):Exit->St->Prop
 | .normal,S=>Ze S ts n/\∃m',m'<m/\I m' (S.cut ts n)
 | .exit i,S=>Q (.exit i) S
 | .goto l,S=>Q (.goto l) S
 | .ret,S=>Q .ret S
 | .panic c,S=>Q (.panic c) S
 | .outgrown,S=>Q .outgrown S
end
end
section
open Go.RowKit
def bq.bX:bq->List Nat
 | .tmp t=>[t]
 | .yO _=>[]
def bO.bX:bO->List Nat
 | .pE x| .box x| .Fb x| .load _ x| .Bn _ x| .not x| .conv _ x| .len _ x| .Bg x| .E5 _ x| .zI _ x| .clear _ _ x| .Lf _ _ x=>x.bX
 | .pick c x y=>c.bX++x.bX++y.bX
 | .alloc _=>[]
 | .store _ p x=>p.bX++x.bX
 | .build _ ps=>ps.flatMap fun p=>p.2.2.bX
 | .OL _ _ _ _ ps=>ps.flatMap fun p=>p.2.bX
 | .tf _ x i| .Br _ _ x i=>x.bX++i.bX
 | .bin _ x y| .mh _ x y| .FR _ _ x y| .Ji _ x y| .u9 _ x y| .za x y| .Fe _ _ _ _ x y| .lookup _ _ x y=>x.bX++y.bX
 | .call _ xs=>xs.flatMap bq.bX
 | .wA f xs=>f.bX++xs.flatMap bq.bX
 | .c6 _ _ _ _ s x=>s.bX++x.bX
 | .K7 _ caps| .K8 _ caps=>caps.flatMap bq.bX
 | .NH _ _ _ _ l c=>l.bX++c.bX
 | .Ic _ x lo hi=>x.bX++(match lo with|some l=>l.bX|none=>[])++(match hi with|some h=>h.bX|none=>[])
def SG.bX(g:SG):List Nat:=(match g.g with|some (t,_)=>[t]|none=>[])++g.op.bX
def bO.sj:bO->Bool
 | .pE _| .Fb _| .pick ..| .bin ..| .mh ..| .FR ..| .Ji ..| .not _| .conv ..| .E5 ..| .K7 ..| .K8 ..| .build ..| .u9 ..| .za ..| .Fe ..| .lookup ..| .Lf ..| .len true _=>false
 |_=>true
def qo:PV->List Nat
 | .own id _| .ptr id _ _| .fg id _ _ _ _| .view id _ _ _ _=>[id]
 |_=>[]
def fo(H:Nat->gp):Nat->PV->List Nat
 |0,_=>[]
 |n+1,.own id _=>id::(match(H id).c with| .row _ _ es=>es.flatMap (fun e=>e.flatMap (fo H n))|_=>[])
 |n+1,.ptr id _ _=>id::(match(H id).c with| .box cs=>cs.flatMap (fo H n)|_=>[])
 |n+1,.agg cs|n+1,.eo cs|n+1,.bG _ cs|n+1,.jN _ cs=>cs.flatMap (fo H n)
 |_+1,_=>[]
def fX(nid:Nat)(S:St):bO->List Nat
 | .load _ p| .Bn _ p| .Bg p| .store _ p _=>qo (p.val S)
 | .tf _ x _| .Br _ _ x _| .len false x| .zI _ x| .Ic _ x _ _| .clear _ _ x=>qo (x.val S)
 | .box _| .alloc _| .OL ..| .NH ..=>[nid]
 | .c6 _ _ _ _ s x=>nid::(qo (s.val S)++qo (x.val S))
 | .call _ xs=>nid::(xs.map (·.val S)).flatMap (fo S.H 9)
 | .wA f xs=>nid::(fo S.H 10 (f.val S)++(xs.map (·.val S)).flatMap (fo S.H 9))
 |_=>[]
section
variable {Γ : pM} {S S' : St} {nid : Nat}
theorem bq.val_congr{x:bq}(h:∀t∈x.bX,S'.env t=S.env t):x.val S'=x.val S:=by
 cases x with
 |tmp t=>exact h t (by simp[bq.bX])
 |yO v=>rfl
theorem vU{xs:List bq}(h:∀t∈xs.flatMap bq.bX,S'.env t=S.env t):xs.map (·.val S')=xs.map (·.val S):=
 Qq71 fun x hx=>bq.val_congr fun t ht=>h t (QQ.2 ⟨x,hx,ht⟩)
theorem U2{H H':Nat->gp}{ex:Option Nat}:∀(n:Nat) (x:PV),(∀id∈fo H n x,H' id=H id)->fz H' ex n x=fz H ex n x
 |0,x,_=>by cases x<;>simp[fz]
 |n+1,x,h=>by
  have go:∀cs:List PV,(∀id∈cs.flatMap (fo H n),H' id=H id)->cs.map (fz H' ex n)=cs.map (fz H ex n):=fun cs hc=>
   Qq71 fun y hy=>U2 n y fun id hid=>hc id (QQ.2 ⟨y,hy,hid⟩)
  cases x with
  |own id av=>
   have h0:H' id=H id:=h id (by simp[fo])
   simp only[fz,h0];split
   ·rfl
   ·cases hc:(H id).c with
    |row e k es=>
     simp only;congr 1;refine Qq71 fun y hy=>go y fun i hi=>h i ?_
     simp only[fo,hc,QA];exact .inr (QQ.2 ⟨y,hy,hi⟩)
    |dead=>rfl
    |box cs=>rfl
  |ptr id av off=>
   have h0:H' id=H id:=h id (by simp[fo])
   simp only[fz,h0];split
   ·rfl
   ·cases hc:(H id).c with
    |box cs=>
     simp only;rw[go cs fun i hi=>h i (by simp only[fo,hc,QA];exact .inr hi)]
    |dead=>rfl
    |row e k es=>rfl
  |agg cs=>simp only[fz];rw[go cs (by simpa[fo]using h)]
  |eo cs=>simp only[fz];rw[go cs (by simpa[fo]using h)]
  |bG f cs=>simp only[fz];rw[go cs (by simpa[fo]using h)]
  |_=>simp[fz]
theorem Ev{H H':Nat->gp}{ex:Option Nat}{xs:List PV}(h:∀id∈xs.flatMap (fo H 9),H' id=H id):xs.map (fz H' ex 9)=xs.map (fz H ex 9):=
 Qq71 fun y hy=>U2 9 y fun id hid=>h id (QQ.2 ⟨y,hy,hid⟩)
theorem DH{f:FuncId}{args:List PV}(hnid:S'.H nid=S.H nid)(h:∀id∈args.flatMap (fo S.H 9),S'.H id=S.H id):nu Γ nid S' f args=nu Γ nid S f args:=by
 have bor:∀(m:Model) (e k:Nat),AW m e k S' args=AW m e k S args:=by
  intro m e k;unfold AW
  cases args with
  |nil=>rfl
  |cons x rest=>
   cases x with
   |own id av=>
    have h0:S'.H id=S.H id:=h id (by simp[fo])
    have h1:rest.map (fz S'.H (some id) 9)=rest.map (fz S.H (some id) 9):=Ev fun i hi=>h i (by simp only[List.flatMap_cons,Qz];exact .inr hi)
    simp only[h0,h1]
   |_=>rfl
 have Sk:∀(m:Model) (e k:Nat),AV m e k S' args=AV m e k S args:=by
  intro m e k;unfold AV
  cases args with
  |nil=>rfl
  |cons x rest=>
   cases x with
   |own id av=>
    have h0:S'.H id=S.H id:=h id (by simp[fo])
    have h1:rest.map (fz S'.H (some id) 9)=rest.map (fz S.H (some id) 9):=Ev fun i hi=>h i (by simp only[List.flatMap_cons,Qz];exact .inr hi)
    simp only[h0,h1]
   |_=>rfl
 unfold nu
 cases hm:Γ f with
 |none=>rfl
 |some m=>
  simp only[bor,Sk,FW,hnid,Ev (ex:=none) h];split
  ·rfl
  ·rfl
  ·rfl
  split
  ·rfl
  split
  ·cases hp:args[m.pos]? with
   |none=>rfl
   |some x=>
    cases x with
    |ptr id av off=>
     cases off with
     |zero=>
      have hmem:PV.ptr id av 0∈args:=Q8 hp;have h0:S'.H id=S.H id:=h id (QQ.2 ⟨_,hmem,by simp[fo]⟩)
      have h1:(cutAt m.pos args).map (fz S'.H (some id) 9)=(cutAt m.pos args).map (fz S.H (some id) 9):=Ev fun i hi=>by
       obtain⟨y,hy,hiy⟩:=QQ.1 hi;refine h i (QQ.2 ⟨y,?_,hiy⟩);unfold cutAt at hy;rcases Qz.1 hy with hy|hy
       ·exact Q1 hy
       ·exact Q2 hy
      simp only[h0,h1]
     |succ k=>rfl
    |_=>rfl
  ·rfl
theorem Je:∀(ps:List (Nat×Nat×bq)) (cs:List PV),(∀t∈ps.flatMap (fun p=>p.2.2.bX),S'.env t=S.env t)->sx S' cs ps=sx S cs ps
 |[],cs,_=>rfl
 |(off,n,x)::ps,cs,h=>by
  have h0:x.val S'=x.val S:=bq.val_congr fun t ht=>h t (by simp[ht])
  simp only[sx,h0];split
  ·exact Je ps _ fun t ht=>h t (by simp only[List.flatMap_cons,Qz];exact .inr ht)
  ·rfl
theorem Jf(k:Nat):∀(ps:List (Nat×bq)) (es:List (List PV)),(∀t∈ps.flatMap (fun p=>p.2.bX),S'.env t=S.env t)->vp S' k es ps=vp S k es ps
 |[],es,_=>rfl
 |(i,x)::ps,es,h=>by
  have h0:x.val S'=x.val S:=bq.val_congr fun t ht=>h t (by simp[ht])
  simp only[vp,h0];split
  ·exact Jf k ps _ fun t ht=>h t (by simp only[List.flatMap_cons,Qz];exact .inr ht)
  ·rfl
theorem E8{x:PV}(h:∀id∈qo x,S'.H id=S.H id):lq S' x=lq S x:=by
 cases x with
 |own id av=>have h0:S'.H id=S.H id:=h id (by simp[qo]);simp only[lq,h0]
 |view id av k lo n=>have h0:S'.H id=S.H id:=h id (by simp[qo]);simp only[lq,h0]
 |_=>rfl
theorem Nw{y:Option bq}{d:Int}(h:∀l,y=some l->l.val S'=l.val S):uj S' y d=uj S y d:=by
 cases y with
 |none=>rfl
 |some l=>simp only[uj,h l rfl]
theorem YG{op:bO}(he:∀t∈op.bX,S'.env t=S.env t)(hH:∀id∈fX nid S op,S'.H id=S.H id):exec Γ nid S' op=exec Γ nid S op:=by
 cases op with
 |pE x=>simp only[exec,bq.val_congr (x:=x) he]
 |pick c x y=>
  have h1:c.val S'=c.val S:=bq.val_congr fun t ht=>he t (by simp[bO.bX,ht])
  have h2:x.val S'=x.val S:=bq.val_congr fun t ht=>he t (by simp[bO.bX,ht])
  have h3:y.val S'=y.val S:=bq.val_congr fun t ht=>he t (by simp[bO.bX,ht])
  simp only[exec,h1,h2,h3]
 |box x=>
  have h1:x.val S'=x.val S:=bq.val_congr he;have h2:S'.H nid=S.H nid:=hH nid (by simp[fX])
  simp only[exec,h1,h2]
 |Fb x=>
  have h1:x.val S'=x.val S:=bq.val_congr he;simp only[exec,h1]
 |alloc z=>
  have h2:S'.H nid=S.H nid:=hH nid (by simp[fX])
  simp only[exec,h2]
 |load n p=>
  have h1:p.val S'=p.val S:=bq.val_congr he;simp only[exec,h1];simp only[fX]at hH
  cases hp:p.val S with
  |ptr id av off=>rw[hp]at hH;have h2:S'.H id=S.H id:=hH id (by simp[qo]);simp only[h2]
  |fg id av k i off=>rw[hp]at hH;have h2:S'.H id=S.H id:=hH id (by simp[qo]);simp only[h2]
  |_=>rfl
 |store n p x=>
  have h1:p.val S'=p.val S:=bq.val_congr fun t ht=>he t (by simp[bO.bX,ht])
  have h2:x.val S'=x.val S:=bq.val_congr fun t ht=>he t (by simp[bO.bX,ht])
  simp only[exec,h1,h2];simp only[fX]at hH
  cases hp:p.val S with
  |ptr id av off=>rw[hp]at hH;have h3:S'.H id=S.H id:=hH id (by simp[qo]);simp only[h3]
  |fg id av k i off=>rw[hp]at hH;have h3:S'.H id=S.H id:=hH id (by simp[qo]);simp only[h3]
  |_=>rfl
 |build z ps=>simp only[exec,Je ps z he]
 |OL m e k z ps=>
  have h2:S'.H nid=S.H nid:=hH nid (by simp[fX])
  simp only[exec,Jf k ps z he,h2]
 |Bn off p=>
  have h1:p.val S'=p.val S:=bq.val_congr he;simp only[exec,h1];simp only[fX]at hH
  cases hp:p.val S with
  |ptr id av off=>rw[hp]at hH;have h2:S'.H id=S.H id:=hH id (by simp[qo]);simp only[h2]
  |fg id av k i off=>rw[hp]at hH;have h2:S'.H id=S.H id:=hH id (by simp[qo]);simp only[h2]
  |_=>rfl
 |tf k x i=>
  have h1:x.val S'=x.val S:=bq.val_congr fun t ht=>he t (by simp[bO.bX,ht])
  have h2:i.val S'=i.val S:=bq.val_congr fun t ht=>he t (by simp[bO.bX,ht])
  simp only[exec,h1,h2];simp only[fX]at hH
  cases hp:x.val S with
  |own id av=>rw[hp]at hH;have h3:S'.H id=S.H id:=hH id (by simp[qo]);simp only[h3]
  |view id av k lo n=>rw[hp]at hH;have h3:S'.H id=S.H id:=hH id (by simp[qo]);simp only[h3]
  |_=>rfl
 |Br k len x i=>
  have h1:x.val S'=x.val S:=bq.val_congr fun t ht=>he t (by simp[bO.bX,ht])
  have h2:i.val S'=i.val S:=bq.val_congr fun t ht=>he t (by simp[bO.bX,ht])
  simp only[exec,h1,h2];simp only[fX]at hH
  cases hp:x.val S with
  |ptr id av off=>rw[hp]at hH;have h3:S'.H id=S.H id:=hH id (by simp[qo]);simp only[h3]
  |_=>rfl
 |bin op x y=>
  have h1:x.val S'=x.val S:=bq.val_congr fun t ht=>he t (by simp[bO.bX,ht])
  have h2:y.val S'=y.val S:=bq.val_congr fun t ht=>he t (by simp[bO.bX,ht])
  simp only[exec,h1,h2]
 |mh n x y=>
  have h1:x.val S'=x.val S:=bq.val_congr fun t ht=>he t (by simp[bO.bX,ht])
  have h2:y.val S'=y.val S:=bq.val_congr fun t ht=>he t (by simp[bO.bX,ht])
  simp only[exec,h1,h2]
 |Ji n x y=>
  have h1:x.val S'=x.val S:=bq.val_congr fun t ht=>he t (by simp[bO.bX,ht])
  have h2:y.val S'=y.val S:=bq.val_congr fun t ht=>he t (by simp[bO.bX,ht])
  simp only[exec,h1,h2]
 |FR n ks x y=>
  have h1:x.val S'=x.val S:=bq.val_congr fun t ht=>he t (by simp[bO.bX,ht])
  have h2:y.val S'=y.val S:=bq.val_congr fun t ht=>he t (by simp[bO.bX,ht])
  simp only[exec,h1,h2]
 |Fe e n len k x y=>
  have h1:x.val S'=x.val S:=bq.val_congr fun t ht=>he t (by simp[bO.bX,ht])
  have h2:y.val S'=y.val S:=bq.val_congr fun t ht=>he t (by simp[bO.bX,ht])
  simp only[exec,h1,h2]
 |za x y=>
  have h1:x.val S'=x.val S:=bq.val_congr fun t ht=>he t (by simp[bO.bX,ht])
  have h2:y.val S'=y.val S:=bq.val_congr fun t ht=>he t (by simp[bO.bX,ht])
  simp only[exec,h1,h2]
 |lookup ok z x y=>
  have h1:x.val S'=x.val S:=bq.val_congr fun t ht=>he t (by simp[bO.bX,ht])
  have h2:y.val S'=y.val S:=bq.val_congr fun t ht=>he t (by simp[bO.bX,ht])
  simp only[exec,h1,h2]
 |not x=>simp only[exec,bq.val_congr (x:=x) he]
 |conv k x=>simp only[exec,bq.val_congr (x:=x) he]
 |Lf n off x=>simp only[exec,bq.val_congr (x:=x) he]
 |len b x=>
  have h1:x.val S'=x.val S:=bq.val_congr he
  cases b with
  |true=>simp only[exec,h1]
  |false=>simp only[exec,h1];rw[E8 (by simpa[fX]using hH)]
 |call f xs=>simp only[exec,vU he];exact DH (hH nid (by simp[fX])) fun id hid=>hH id (by simp only[fX,QA];exact .inr hid)
 |wA fv xs=>
  have h1:fv.val S'=fv.val S:=bq.val_congr fun t ht=>he t (by simp[bO.bX,ht])
  have h2:xs.map (·.val S')=xs.map (·.val S):=vU fun t ht=>he t (by simp only[bO.bX,Qz];exact .inr ht)
  simp only[exec,h1,h2];simp only[fX]at hH
  cases hp:fv.val S with
  |bG f caps=>
   rw[hp]at hH;refine DH (hH nid (by simp)) fun id hid=>hH id ?_
   simp only[List.flatMap_append,Qz,QA]at hid ⊢;right;rcases hid with hid|hid
   ·exact .inr hid
   ·exact .inl (by simpa[fo]using hid)
  |jN f first=>
   rw[hp]at hH;refine DH (hH nid (by simp)) fun id hid=>hH id ?_
   simp only[List.flatMap_append,Qz,QA]at hid ⊢;right;rcases hid with hid|hid
   ·exact .inl (by simpa[fo]using hid)
   ·exact .inr hid
  |_=>rfl
 |c6 z e k b s x=>
  have h1:s.val S'=s.val S:=bq.val_congr fun t ht=>he t (by simp[bO.bX,ht])
  have h2:x.val S'=x.val S:=bq.val_congr fun t ht=>he t (by simp[bO.bX,ht])
  have h3:S'.H nid=S.H nid:=hH nid (by simp[fX])
  have h4:lq S' (x.val S)=lq S (x.val S):=E8 fun id hid=>hH id (by simp[fX,hid])
  simp only[exec,h1,h2,h3,h4]
  cases hp:s.val S with
  |own id av=>have h5:S'.H id=S.H id:=hH id (by simp[fX,hp,qo]);simp only[h5]
  |_=>rfl
 |Bg x=>
  have h1:x.val S'=x.val S:=bq.val_congr he;simp only[exec,h1];simp only[fX]at hH
  cases hp:x.val S with
  |ptr id av off=>rw[hp]at hH;have h2:S'.H id=S.H id:=hH id (by simp[qo]);simp only[h2]
  |_=>rfl
 |E5 i x=>simp only[exec,bq.val_congr (x:=x) he]
 |K7 f caps=>simp only[exec,vU he]
 |K8 f caps=>simp only[exec,vU he]
 |NH e k b z l c=>
  have h1:l.val S'=l.val S:=bq.val_congr fun t ht=>he t (by simp[bO.bX,ht])
  have h2:c.val S'=c.val S:=bq.val_congr fun t ht=>he t (by simp[bO.bX,ht])
  have h3:S'.H nid=S.H nid:=hH nid (by simp[fX])
  simp only[exec,h1,h2,h3]
 |Ic k x lo hi=>
  have h1:x.val S'=x.val S:=bq.val_congr fun t ht=>he t (by simp[bO.bX,ht])
  have h2:∀l,lo=some l->l.val S'=l.val S:=fun l hl=>bq.val_congr fun t ht=>he t (by simp[bO.bX,hl,ht])
  have h3:∀l,hi=some l->l.val S'=l.val S:=fun l hl=>bq.val_congr fun t ht=>he t (by simp[bO.bX,hl,ht])
  simp only[fX]at hH;simp only[exec,h1];have h4:∀d,uj S' lo d=uj S lo d:=fun d=>Nw h2
  have h5:∀d,uj S' hi d=uj S hi d:=fun d=>Nw h3
  cases hp:x.val S with
  |own id av=>rw[hp]at hH;have h6:S'.H id=S.H id:=hH id (by simp[qo]);simp only[h4,h5,h6]
  |view id av k lo n=>rw[hp]at hH;have h6:S'.H id=S.H id:=hH id (by simp[qo]);simp only[h4,h5,h6]
  |sl es=>cases lo<;>cases hi<;>simp_all
  |_=>rfl
 |clear k z x=>
  have h1:x.val S'=x.val S:=bq.val_congr he;simp only[fX]at hH;simp only[exec,h1]
  cases hp:x.val S with
  |view id av k lo n=>rw[hp]at hH;have h6:S'.H id=S.H id:=hH id (by simp[qo]);simp only[h6]
  |_=>rfl
 |u9 m x y=>
  have h1:x.val S'=x.val S:=bq.val_congr fun t ht=>he t (by simp[bO.bX,ht])
  have h2:y.val S'=y.val S:=bq.val_congr fun t ht=>he t (by simp[bO.bX,ht])
  simp only[exec,h1,h2]
 |zI n x=>
  have h1:x.val S'=x.val S:=bq.val_congr he;have h2:lq S' (x.val S)=lq S (x.val S):=E8 (by simpa[fX]using hH)
  simp only[exec,h1];cases hx:x.val S<;>first|rfl|(rw[hx]at h2;simp only[h2])
theorem wq{α β:Type}{f g:α->List β}:∀{l:List α},(∀x∈l,f x=g x)->l.flatMap f=l.flatMap g
 |[],_=>rfl
 |x::l,h=>by simp only[List.flatMap_cons];rw[h x (by simp),wq fun y hy=>h y (by simp[hy])]
theorem Gu{H H':Nat->gp}:∀(n:Nat) (x:PV),(∀id∈fo H n x,H' id=H id)->fo H' n x=fo H n x
 |0,x,_=>by simp[fo]
 |n+1,x,h=>by
  have go:∀cs:List PV,(∀id∈cs.flatMap (fo H n),H' id=H id)->cs.flatMap (fo H' n)=cs.flatMap (fo H n):=fun cs hc=>
   wq fun y hy=>Gu n y fun id hid=>hc id (QQ.2 ⟨y,hy,hid⟩)
  cases x with
  |own id av=>
   have h0:H' id=H id:=h id (by simp[fo])
   simp only[fo,h0]
   cases hc:(H id).c with
   |row e k es=>
    simp only;congr 1;refine wq fun y hy=>go y fun i hi=>h i ?_
    simp only[fo,hc,QA];exact .inr (QQ.2 ⟨y,hy,hi⟩)
   |dead=>rfl
   |box cs=>rfl
  |ptr id av off=>
   have h0:H' id=H id:=h id (by simp[fo])
   simp only[fo,h0]
   cases hc:(H id).c with
   |box cs=>
    simp only;rw[go cs fun i hi=>h i (by simp only[fo,hc,QA];exact .inr hi)]
   |dead=>rfl
   |row e k es=>rfl
  |agg cs=>simp only[fo];exact go cs (by simpa[fo]using h)
  |eo cs=>simp only[fo];exact go cs (by simpa[fo]using h)
  |bG f cs=>simp only[fo];exact go cs (by simpa[fo]using h)
  |jN f cs=>simp only[fo];exact go cs (by simpa[fo]using h)
  |_=>simp[fo]
theorem K0{H H':Nat->gp}{n:Nat}{xs:List PV}(h:∀id∈xs.flatMap (fo H n),H' id=H id):xs.flatMap (fo H' n)=xs.flatMap (fo H n):=
 wq fun y hy=>Gu n y fun id hid=>h id (QQ.2 ⟨y,hy,hid⟩)
theorem X2{op:bO}(he:∀t∈op.bX,S'.env t=S.env t)(hH:∀id∈fX nid S op,S'.H id=S.H id):fX nid S' op=fX nid S op:=by
 cases op with
 |load n p=>simp only[fX,bq.val_congr (x:=p) he]
 |Bn off p=>simp only[fX,bq.val_congr (x:=p) he]
 |Bg p=>simp only[fX,bq.val_congr (x:=p) he]
 |store n p x=>
  have h1:p.val S'=p.val S:=bq.val_congr fun t ht=>he t (by simp[bO.bX,ht])
  simp only[fX,h1]
 |tf k x i=>
  have h1:x.val S'=x.val S:=bq.val_congr fun t ht=>he t (by simp[bO.bX,ht])
  simp only[fX,h1]
 |Br k l x i=>
  have h1:x.val S'=x.val S:=bq.val_congr fun t ht=>he t (by simp[bO.bX,ht])
  simp only[fX,h1]
 |zI n x=>simp only[fX,bq.val_congr (x:=x) he]
 |clear k z x=>simp only[fX,bq.val_congr (x:=x) he]
 |Ic k x lo hi=>
  have h1:x.val S'=x.val S:=bq.val_congr fun t ht=>he t (by simp[bO.bX,ht])
  simp only[fX,h1]
 |len b x=>
  cases b with
  |true=>rfl
  |false=>simp only[fX,bq.val_congr (x:=x) he]
 |c6 z e k b s x=>
  have h1:s.val S'=s.val S:=bq.val_congr fun t ht=>he t (by simp[bO.bX,ht])
  have h2:x.val S'=x.val S:=bq.val_congr fun t ht=>he t (by simp[bO.bX,ht])
  simp only[fX,h1,h2]
 |call f xs=>
  simp only[fX,vU he];rw[K0 fun id hid=>hH id (by simp only[fX,QA];exact .inr hid)]
 |wA fv xs=>
  have h1:fv.val S'=fv.val S:=bq.val_congr fun t ht=>he t (by simp[bO.bX,ht])
  have h2:xs.map (·.val S')=xs.map (·.val S):=vU fun t ht=>he t (by simp only[bO.bX,Qz];exact .inr ht)
  simp only[fX,QA,Qz]at hH;simp only[fX,h1,h2];rw[Gu 10 _ fun id hid=>hH id (.inr (.inl hid)),K0 fun id hid=>hH id (.inr (.inr hid))]
 |_=>rfl
def BT(Γ:pM)(nid:Nat)(S:St)(g:SG):Option (PV×Option (Nat×gp)):=
 match g.wanted S with
 |some true=>exec Γ nid S g.op
 |some false=>some (.undef,none)
 |none=>none
def FQ(nid:Nat)(S:St)(g:SG):List Nat:=
 match g.wanted S with
 |some true=>fX nid S g.op
 |_=>[]
theorem WE(g:SG):xf Γ nid S g=(BT Γ nid S g).map fun p=>S.c6 g.d p.1 p.2:=by
 unfold xf BT
 cases g.wanted S with
 |none=>rfl
 |some b=>cases b<;>rfl
theorem H5{g:SG}(he:∀t∈g.bX,S'.env t=S.env t):g.wanted S'=g.wanted S:=by
 unfold SG.wanted
 cases hg:g.g with
 |none=>rfl
 |some p=>
  obtain⟨t,want⟩:=p;simp only;rw[he t (by simp[SG.bX,hg])]
theorem Sf{g:SG}(he:∀t∈g.bX,S'.env t=S.env t)(hH:∀id∈FQ nid S g,S'.H id=S.H id):BT Γ nid S' g=BT Γ nid S g:=by
 unfold BT;rw[H5 he];unfold FQ at hH
 cases hw:g.wanted S with
 |none=>rfl
 |some b=>
  cases b with
  |false=>rfl
  |true=>
   rw[hw]at hH;exact YG (fun t ht=>he t (by simp[SG.bX,ht])) hH
theorem R8{g:SG}(he:∀t∈g.bX,S'.env t=S.env t)(hH:∀id∈FQ nid S g,S'.H id=S.H id):FQ nid S' g=FQ nid S g:=by
 unfold FQ;rw[H5 he];unfold FQ at hH
 cases hw:g.wanted S with
 |none=>rfl
 |some b=>
  cases b with
  |false=>rfl
  |true=>
   rw[hw]at hH;exact X2 (fun t ht=>he t (by simp[SG.bX,ht])) hH
structure w6 where
 d:Option Nat
 us:List Nat
 rd:List Nat
 wr:Option Nat
structure Zc (p q:w6):Prop where
 d1:∀t,p.d=some t->t∉q.us
 d2:∀t,q.d=some t->t∉p.us
 dd:∀t,p.d=some t->q.d≠some t
 w1:∀i,p.wr=some i->i∉q.rd
 w2:∀i,q.wr=some i->i∉p.rd
 ww:∀i,p.wr=some i->q.wr≠some i
def E2(nid:Nat)(S:St)(g:SG)(p:PV×Option (Nat×gp)):w6:=⟨g.d,g.bX,FQ nid S g,p.2.map (·.1)⟩
def pz(Γs:Nat->pM)(base:Nat):List (Nat×SG)->St->Option (St×List w6)
 |[],S=>some (S,[])
 |(i,g)::l,S=>
  match BT (Γs i) (base+i) S g with
  |none=>none
  |some p=>
   match pz Γs base l (S.c6 g.d p.1 p.2)with
   |none=>none
   |some (S',fs)=>some (S',E2 (base+i) S g p::fs)
theorem St.ng(d:Option Nat)(x:PV)(wr:Option (Nat×gp)){t:Nat}(h:d≠some t):(S.c6 d x wr).env t=S.env t:=by
 cases d with
 |none=>rfl
 |some d=>exact cP _ _ (fun e=>h (by rw[e]))
theorem St.Hl(d:Option Nat)(x:PV)(wr:Option (Nat×gp)){i:Nat}(h:wr.map (·.1)≠some i):(S.c6 d x wr).H i=S.H i:=by
 cases wr with
 |none=>rfl
 |some p=>exact cP _ _ (fun e=>h (by rw[e];rfl))
theorem Tx{α:Type}(f:Nat->α){i j:Nat}(x y:α)(h:i≠j):bN (bN f i x) j y=bN (bN f j y) i x:=by
 funext k
 simp only[bN];split<;>split<;>first|rfl|omega
theorem St.acz(d e:Option Nat)(x y:PV)(p q:Option (Nat×gp))(hd:∀t,d=some t->e≠some t)(hw:∀i,p.map (·.1)=some i->q.map (·.1)≠some i):(S.c6 d x p).c6 e y q=(S.c6 e y q).c6 d x p:=by
 unfold St.c6;congr 1
 ·cases d with
  |none=>rfl
  |some d=>
   cases e with
   |none=>rfl
   |some e=>exact Tx _ _ _ (fun h=>hd d rfl (by rw[h]))
 ·cases p with
  |none=>rfl
  |some p=>
   cases q with
   |none=>rfl
   |some q=>exact Tx _ _ _ (fun h=>hw p.1 rfl (by rw[h];rfl))
theorem Iq{Γs:Nat->pM}{base:Nat}:∀(l1:List (Nat×SG)) (i:Nat) (g:SG) (l2:List (Nat×SG)) (S S':St) (fs:List w6),pz Γs base (l1++(i,g)::l2) S=some (S',fs)->
  (∀(k:Nat) (fk fi:w6),k<l1.length->fs[k]?=some fk->fs[l1.length]?=some fi->Zc fk fi)->
  ∃p,BT (Γs i) (base+i) S g=some p/\(∀fi,fs[l1.length]?=some fi->fi=E2 (base+i) S g p)/\pz Γs base (l1++l2) (S.c6 g.d p.1 p.2)=some (S',fs.eraseIdx l1.length)
 |[],i,g,l2,S,S',fs,h,_=>by
  simp only[List.nil_append,pz]at h;split at h
  ·cases h
  ·rename_i p hp;split at h
   ·cases h
   ·rename_i S1 fs1 h1;injection h with h
    injection h with h2 h3
    subst h2 h3;exact⟨p,hp,fun fi hfi=>by simp at hfi;exact hfi.symm,by simpa using h1⟩
 |(x,gx)::l1,i,g,l2,S,S',fs,h,hi=>by
  simp only[List.cons_append,pz]at h;split at h
  ·cases h
  ·rename_i px hpx;split at h
   ·cases h
   ·rename_i S1 fs1 h1;injection h with h
    injection h with h2 h3
    subst h2 h3;obtain⟨p,hp,hfp,hrest⟩:=Iq l1 i g l2 (S.c6 gx.d px.1 px.2) S1 fs1 h1 (fun k fk fi hk hfk hfi=>hi (k+1) fk fi (by simp;omega) (by simpa using hfk) (by simpa using hfi))
    have hlen:l1.length<fs1.length:=by
     have:∀(l:List (Nat×SG)) (S:St) (S':St) (fs:List w6),pz Γs base l S=some (S',fs)->fs.length=l.length:=by
      intro l
      induction l with
      |nil=>intro S S' fs h;simp only[pz,Qf,Prod.mk.injEq]at h;rw[<-h.2];rfl
      |cons q l ih=>
       intro S S' fs h;obtain⟨j,gj⟩:=q;simp only[pz]at h;split at h
       ·cases h
       ·split at h
        ·cases h
        ·rename_i S2 fs2 h2;injection h with h
         injection h with h3 h4
         subst h4;simp[ih _ _ _ h2]
     rw[this _ _ _ _ h1];simp
    have hfi:=hfp _ (Qv hlen);have hind:=hi 0 (E2 (base+x) S gx px) _ (by simp) (by simp) (show(E2 (base+x) S gx px::fs1)[l1.length+1]?=some fs1[l1.length]by rw[List.getElem?_cons_succ];exact Qv hlen)
    rw[hfi]at hind;have he:∀t∈g.bX,S.env t=(S.c6 gx.d px.1 px.2).env t:=fun t ht=>(St.ng _ _ _ (fun e=>hind.d1 t e ht)).symm
    have hH:∀id∈FQ (base+i) (S.c6 gx.d px.1 px.2) g,S.H id=(S.c6 gx.d px.1 px.2).H id:=fun id hid=>(St.Hl _ _ _ (fun e=>hind.w1 id e hid)).symm
    have hp':BT (Γs i) (base+i) S g=some p:=(Sf he hH).trans hp;have hg':=R8 (nid:=base+i) he hH;have hex:∀t∈gx.bX,(S.c6 g.d p.1 p.2).env t=S.env t:=fun t ht=>St.ng _ _ _ (fun e=>hind.d2 t e ht)
    have hHx:∀id∈FQ (base+x) S gx,(S.c6 g.d p.1 p.2).H id=S.H id:=fun id hid=>St.Hl _ _ _ (fun e=>hind.w2 id e hid)
    have hpx':BT (Γs x) (base+x) (S.c6 g.d p.1 p.2) gx=some px:=(Sf hex hHx).trans hpx;have hgx':=R8 (nid:=base+x) hex hHx;have hcomm:(S.c6 g.d p.1 p.2).c6 gx.d px.1 px.2=(S.c6 gx.d px.1 px.2).c6 g.d p.1 p.2:=(St.acz _ _ _ _ _ _ hind.dd hind.ww).symm;refine⟨p,hp',fun fi hf=> ?_,?_⟩
    ·have:fi=fs1[l1.length]:=by
      have h5:(E2 (base+x) S gx px::fs1)[l1.length+1]?=some fi:=by simpa using hf
      simp only[List.getElem?_cons_succ,Qv hlen,Qf]at h5;exact h5.symm
     rw[this,hfi];simp only[E2,hg']
    ·simp only[List.cons_append,pz,hpx',hcomm,hrest,QE,List.eraseIdx_cons_succ];congr 2;simp only[E2,hgx']
end
section
variable {P : Program} {E : En} {Γ : pM} {hs : List Nat}
def xQ(o:Oper):Nat:=o.after.toList.foldl (fun m e=>if Region.binds .any e then m|||(1<<<e.on)else m) 0
def aaU(ds:List Nat)(M:Nat):Nat:=ds.zipIdx.foldl (fun m p=>if M.testBit p.2 then m|||p.1 else m) M
def DM(ds:List Nat):Nat->Nat->Nat
 |0,M=>M
 |n+1,M=>DM ds n (aaU ds M)
theorem VY(i j:Nat):(1<<<i).testBit j=decide (j=i):=by
 rw[Nat.one_shiftLeft,Nat.testBit_two_pow];exact decide_eq_decide.2 ⟨fun h=>h.symm,fun h=>h.symm⟩
theorem Ve{o:Oper}{R:Nat->Prop}(h:∀e∈o.after,Region.binds .any e=true->R e.on):∀j,(xQ o).testBit j=true->R j:=by
 have:∀(l:List Edge) (m:Nat),(∀e∈l,Region.binds .any e=true->R e.on)->(∀j,m.testBit j=true->R j)->∀j,(l.foldl (fun m e=>if Region.binds .any e then m|||(1<<<e.on)else m) m).testBit j=true->R j:=by
  intro l
  induction l with
  |nil=>intro m _ hm j hj;exact hm j hj
  |cons e l ih=>
   intro m hl hm j hj;refine ih _ (fun e' he'=>hl e' (by simp[he'])) ?_ j hj
   intro k hk;simp only at hk;split at hk
   ·rename_i hb;rw[Nat.testBit_or,Qn,VY,Qi]at hk;rcases hk with hk|hk
    ·exact hm k hk
    ·rw[hk];exact hl e (by simp) hb
   ·exact hm k hk
 exact this o.after.toList 0 (fun e he=>h e (by simpa using he)) (fun j hj=>by simp at hj)
theorem aaT{ds:List Nat}{R:Nat->Prop}(hd:∀i d,ds[i]?=some d->R i->∀j,d.testBit j=true->R j){M:Nat}(hM:∀j,M.testBit j=true->R j):∀j,(aaU ds M).testBit j=true->R j:=by
 have:∀(l:List (Nat×Nat)) (m:Nat),(∀p∈l,R p.2->∀j,p.1.testBit j=true->R j)->(∀j,m.testBit j=true->R j)->∀j,(l.foldl (fun m p=>if M.testBit p.2 then m|||p.1 else m) m).testBit j=true->R j:=by
  intro l
  induction l with
  |nil=>intro m _ hm j hj;exact hm j hj
  |cons p l ih=>
   intro m hl hm j hj;refine ih _ (fun q hq=>hl q (by simp[hq])) ?_ j hj
   intro k hk;simp only at hk;split at hk
   ·rename_i hb;rw[Nat.testBit_or,Qn]at hk;rcases hk with hk|hk
    ·exact hm k hk
    ·exact hl p (by simp) (hM _ hb) k hk
   ·exact hm k hk
 refine this ds.zipIdx M (fun p hp hR j hj=> ?_) hM
 obtain⟨d,i⟩:=p;rw[List.mem_zipIdx_iff_getElem?]at hp;exact hd i d hp hR j hj
theorem Sr{ds:List Nat}{R:Nat->Prop}(hd:∀i d,ds[i]?=some d->R i->∀j,d.testBit j=true->R j):∀(n M:Nat),(∀j,M.testBit j=true->R j)->∀j,(DM ds n M).testBit j=true->R j
 |0,_,hM=>hM
 |n+1,_,hM=>Sr hd n _ (aaT hd hM)
def Pc(ops:List Oper):List (Nat×Nat):=
 let ds:=ops.map xQ
 (List.range ops.length).flatMap fun j=>
  let M:=DM ds ops.length (ds.getD j 0)
  (List.range j).filterMap fun i=>if M.testBit i then none else some (i,j)
def P4(g h:SG):Bool:=
 (match g.d with|some t=> !h.bX.contains t&&h.d !=some t|none=>true)&&(match h.d with|some t=> !g.bX.contains t|none=>true)
def DB(p q:w6):Bool:=
 (match p.wr with|some i=> !q.rd.contains i&&q.wr !=some i|none=>true)&&(match q.wr with|some i=> !p.rd.contains i|none=>true)
def YU(ops:List Oper)(gs:List SG):Option (List (Nat×Nat)):=
 let un:=Pc ops
 if un.all (fun p=>match gs[p.1]?,gs[p.2]? with|some g,some h=>P4 g h|_,_=>false)&&ops.zipIdx.all (fun p=>p.1.after.toList.all fun e=> !Region.binds .any e||decide (e.on<p.2))then
  some (un.filter fun p=>match gs[p.1]?,gs[p.2]? with|some g,some h=>g.op.sj&&h.op.sj|_,_=>true)
 else none
def Pj(Γs:Nat->pM)(base:Nat)(un:List (Nat×Nat))(gs:List SG)(S:St):Option St:=
 match pz Γs base (gs.zipIdx.map fun p=>(p.2,p.1)) S with
 |none=>none
 |some (S',fs)=>if un.all (fun p=>match fs[p.1]?,fs[p.2]? with|some a,some b=>DB a b|_,_=>false)then some S' else none
theorem TV{nid:Nat}{S:St}{op:bO}(h:op.sj=false):fX nid S op=[]:=by
 cases op with
 |len b x=>cases b<;>simp_all [bO.sj,fX]
 |_=>simp_all [bO.sj,fX]
theorem XK{nid:Nat}{S:St}{op:bO}(h:op.sj=false){p:PV×Option (Nat×gp)}(he:exec Γ nid S op=some p):p.2=none:=by
 cases op with
 |pE x=>simp only[exec,Qf]at he;rw[<-he]
 |pick c x y=>
  simp only[exec]at he;split at he<;>first|(injection he with he;rw[<-he])|cases he
 |bin op x y=>simp only[exec,Qb]at he;obtain⟨_,_,rfl⟩:=he;rfl
 |mh n x y=>
  simp only[exec]at he;split at he
  ·split at he
   ·injection he with he;rw[<-he]
   ·cases he
  ·cases he
 |Ji n x y=>
  simp only[exec]at he;split at he
  ·injection he with he;rw[<-he]
  ·cases he
 |Fe e n len k x y=>
  simp only[exec]at he;split at he
  ·split at he
   ·simp only[Qb]at he;obtain⟨_,_,rfl⟩:=he;rfl
   ·cases he
  ·cases he
 |za x y=>
  simp only[exec]at he;split at he
  ·simp only[Qb]at he;obtain⟨_,_,rfl⟩:=he;rfl
  ·cases he
 |lookup ok z x y=>
  simp only[exec]at he;split at he
  ·simp only[Qb]at he;obtain⟨_,_,rfl⟩:=he;rfl
  ·cases he
 |not x=>
  simp only[exec]at he;split at he<;>first|(injection he with he;rw[<-he])|cases he
 |conv k x=>
  simp only[exec]at he;split at he<;>first|(injection he with he;rw[<-he])|cases he
 |E5 i x=>
  simp only[exec]at he;split at he
  ·simp only[Qb]at he;obtain⟨_,_,rfl⟩:=he;rfl
  ·cases he
 |Lf n off x=>
  simp only[exec]at he;split at he
  ·simp only[Qb]at he;obtain⟨_,_,rfl⟩:=he;rfl
  ·cases he
 |K7 f c=>simp only[exec,Qf]at he;rw[<-he]
 |Fb x=>
  simp only[exec]at he;split at he
  ·injection he with he;rw[<-he]
  ·cases he
 |K8 f c=>simp only[exec,Qf]at he;rw[<-he]
 |FR n ks x y=>
  simp only[exec]at he;split at he
  ·simp only[Qb]at he;obtain⟨_,_,rfl⟩:=he;rfl
  ·cases he
 |build z ps=>simp only[exec,Qb]at he;obtain⟨_,_,rfl⟩:=he;rfl
 |u9 m x y=>
  simp only[exec]at he;split at he
  ·split at he
   ·injection he with he;rw[<-he]
   ·cases he
  ·cases he
 |len b x=>
  cases b with
  |true=>
   simp only[exec]at he;split at he<;>first|(injection he with he;rw[<-he])|cases he
  |false=>simp[bO.sj]at h
 |_=>simp[bO.sj]at h
theorem Ph{Γs:Nat->pM}{base:Nat}:∀(l:List (Nat×SG)) (S S':St) (fs:List w6),pz Γs base l S=some (S',fs)->fs.length=l.length/\∀(k i:Nat) (g:SG) (f:w6),l[k]?=some (i,g)->fs[k]?=some f->
  f.d=g.d/\f.us=g.bX/\(g.op.sj=false->f.rd=[]/\f.wr=none)
 |[],S,S',fs,h=>by simp only[pz,Qf,Prod.mk.injEq]at h;rw[<-h.2];exact⟨rfl,fun k i g f hk=>by simp at hk⟩
 |(j,gj)::l,S,S',fs,h=>by
  simp only[pz]at h;split at h
  ·cases h
  ·rename_i p hp;split at h
   ·cases h
   ·rename_i S2 fs2 h2;injection h with h
    injection h with h3 h4
    subst h4;obtain⟨h5,h6⟩:=Ph l _ _ _ h2;refine⟨by simp[h5],fun k i g f hk hf=> ?_⟩
    cases k with
    |zero=>
     simp only[List.getElem?_cons_zero,Qf,Prod.mk.injEq]at hk hf;obtain⟨rfl,rfl⟩:=hk;subst hf;refine⟨rfl,rfl,fun ht=> ?_⟩
     unfold BT at hp;simp only[E2,FQ];split at hp
     ·rename_i hw;rw[hw];exact⟨TV ht,by rw[XK ht hp];rfl⟩
     ·rename_i hw;injection hp with hp
      subst hp;rw[hw];exact⟨rfl,rfl⟩
     ·cases hp
    |succ k=>exact h6 k i g f (by simpa using hk) (by simpa using hf)
def qn(gs:List SG)(listed:Array Bool):List (Nat×SG):=(gs.zipIdx.map fun p=>(p.2,p.1)).filter fun p=> !listed.getD p.1 true
theorem Dn{gs:List SG}{listed:Array Bool}{i:Nat}{g:SG}:(i,g)∈qn gs listed↔gs[i]?=some g/\listed.getD i true=false:=by
 unfold qn;simp only[List.mem_filter,QP,Prod.mk.injEq,Prod.exists,Bool.not_eq_true'];constructor
 ·rintro⟨⟨x,j,h1,rfl,rfl⟩,h2⟩;rw[List.mem_zipIdx_iff_getElem?]at h1;exact⟨h1,h2⟩
 ·rintro⟨h1,h2⟩;exact⟨⟨g,i,by rw[List.mem_zipIdx_iff_getElem?];exact h1,rfl,rfl⟩,h2⟩
theorem K4(gs:List SG)(listed:Array Bool):(qn gs listed).Pairwise fun p q=>p.1<q.1:=by
 unfold qn;refine List.Pairwise.filter _ ?_;rw[List.pairwise_map]
 have:∀(l:List SG) (k:Nat),(l.zipIdx k).Pairwise fun p q=>p.2<q.2:=by
  intro l
  induction l with
  |nil=>intro k;simp
  |cons x l ih=>
   intro k;rw[List.zipIdx_cons,Q4];refine⟨fun q hq=> ?_,ih (k+1)⟩
   obtain⟨y,j⟩:=q;have:=List.le_snd_of_mem_zipIdx hq;simp only at this ⊢;omega
 exact this gs 0
theorem LQ{gs:List SG}{listed:Array Bool}{i:Nat}{g:SG}{l1 l2:List (Nat×SG)}(hi:i<listed.size)(h:qn gs listed=l1++(i,g)::l2):qn gs (listed.setIfInBounds i true)=l1++l2:=by
 have hsort:=K4 gs listed;rw[h]at hsort
 have h1:qn gs (listed.setIfInBounds i true)=(qn gs listed).filter fun p=>decide (p.1≠i):=by
  unfold qn;rw[List.filter_filter];congr 1
  funext p
  by_cases hp:p.1=i
  ·rw[hp];simp[QN,Array.getElem?_setIfInBounds_self_of_lt hi]
  ·have:(listed.setIfInBounds i true).getD p.1 true=listed.getD p.1 true:=by
    simp only[QN];rw[Array.getElem?_setIfInBounds_ne (fun e=>hp e.symm)]
   rw[this];simp[hp]
 rw[h1,h,List.filter_append,List.filter_cons];simp only[ne_eq,not_true_eq_false,decide_false,Qq,Qu];rw[Qq69]at hsort;obtain⟨_,s2,s3⟩:=hsort;rw[Q4]at s2;rw[List.filter_eq_self.2,List.filter_eq_self.2]
 ·intro q hq;have:=s2.1 q hq;simp only at this;simp;omega
 ·intro q hq;have:=s3 q hq (i,g) (by simp)
  simp only at this;simp;omega
def Bv(ops:List Oper)(l:List (Nat×SG))(fs:List w6):Prop:=
 ∀(a b:Nat) (p q:Nat×SG) (f h:w6),a<b->l[a]?=some p->l[b]?=some q->fs[a]?=some f->fs[b]?=some h->(DM (ops.map xQ) ops.length ((ops.map xQ).getD q.1 0)).testBit p.1=false->Zc f h
theorem ab8{Γs:Nat->pM}(hΓ:∀i,oP P (Γs i)){ops:Array Oper}{gs:List SG}(hc:ops.toList.mapM (xw P hs ops)=some gs)(hd:∀o∈ops.toList,∀t,o.dst=some t->E.can t){base:Nat}{S':St}{Q:Exit->Act->World->Prop}
  (hQ:∀a' w' L',Rel E S' a' w' L'->Q .normal a' w'):∀(fuel:Nat) (listed:Array Bool) (S:St) (a:Act) (w:World) (L:Nat->Value) (fs:List w6),listed.size=ops.size->
  (∀i o,ops[i]?=some o->listed.getD i true=true->∀e∈o.after,Region.binds .any e=true->listed.getD e.on true=true)->
  (∀i o,ops[i]?=some o->∀e∈o.after,Region.binds .any e=true->e.on<i)->
  Rel E S a w L->base+ops.size<=S.N->pz Γs base (qn gs listed) S=some (S',fs)->Bv ops.toList (qn gs listed) fs->(qn gs listed).length<=fuel->wpAnyIn (WF E.rd) 0 P .any ops Q fuel listed a w:=by
 have hgl:gs.length=ops.size:=by have:=xm hc;simpa using this
 intro fuel
 induction fuel with
 |zero=>
  intro listed S a w L fs hsz hcl hback h hN hrun hap hfu;have hp:qn gs listed=[]:=Qq67 (by omega)
  rw[hp]at hrun;simp only[pz,Qf,Prod.mk.injEq]at hrun
  have hrd:Region.ready .any ops listed=[]:=by
   rw[List.eq_nil_iff_forall_not_mem];intro i hi;simp only[Region.ready,List.mem_filter,List.mem_range,Qm,Bool.not_eq_true']at hi;obtain⟨h1,h2,_⟩:=hi;have:(i,gs[i]'(by omega))∈qn gs listed:=Dn.2 ⟨Qv (by omega),h2⟩
   rw[hp]at this;cases this
  refine⟨hrd,?_⟩;rw[hrun.1]at h;exact hQ a w L h
 |succ fuel ih=>
  intro listed S a w L fs hsz hcl hback h hN hrun hap hfu;refine⟨fun hrd=> ?_,fun i hi=> ?_⟩
  ·
   have hp:qn gs listed=[]:=by
    rcases hpe:qn gs listed with _|⟨⟨i,g⟩,l⟩
    ·rfl
    ·exfalso;have hmem:(i,g)∈qn gs listed:=by rw[hpe];simp
     obtain⟨h1,h2⟩:=Dn.1 hmem;have hil:i<ops.size:=by have:=(Qw.1 h1).1;omega
     have hmin:∀j,j<i->listed.getD j true=true:=by
      intro j hj
      cases hlj:listed.getD j true with
      |true=>rfl
      |false=>
       have hm:(j,gs[j]'(by omega))∈qn gs listed:=Dn.2 ⟨Qv (by omega),hlj⟩
       have hs:=K4 gs listed;rw[hpe,Q4]at hs;rw[hpe]at hm;rcases QA.1 hm with hm|hm
       ·injection hm with hm;omega
       ·have:=hs.1 _ hm;simp only at this;omega
     have:i∈Region.ready .any ops listed:=by
      simp only[Region.ready,List.mem_filter,List.mem_range,Qm,Bool.not_eq_true'];refine⟨hil,h2,?_⟩;rw[Array.getElem?_eq_getElem hil];simp only[Qe,Q3,Array.all_eq_true_iff_forall_mem,Qn,Bool.not_eq_true'];intro e he
      cases hb:Region.binds .any e with
      |false=>exact .inl rfl
      |true=>
       right;have hlt:=hback i _ (Array.getElem?_eq_getElem hil) e he hb;have:=hmin e.on hlt;rw[QN]at this ⊢;rw[Array.getElem?_eq_getElem (by omega)]at this ⊢
       simpa using this
     rw[hrd]at this;cases this
   rw[hp]at hrun;simp only[pz,Qf,Prod.mk.injEq]at hrun;rw[hrun.1]at h;exact hQ a w L h
  ·simp only[Region.ready,List.mem_filter,List.mem_range,Qm,Bool.not_eq_true']at hi;obtain⟨hil,hli,hpre⟩:=hi;have ho:ops[i]?=some ops[i]:=Array.getElem?_eq_getElem hil;rw[ho]at hpre;simp only[Qe,Q3,Array.all_eq_true_iff_forall_mem,Qn,Bool.not_eq_true']at hpre;have hgi:gs[i]?=some (gs[i]'(by omega)):=Qv (by omega)
   have hmem:(i,gs[i]'(by omega))∈qn gs listed:=Dn.2 ⟨hgi,hli⟩
   obtain⟨l1,l2,hsplit⟩:=List.append_of_mem hmem;rw[hsplit]at hrun hap
   have hpreT:∀e∈ops[i].after,Region.binds .any e=true->listed.getD e.on true=true:=fun e he hb=>by
    rcases hpre e he with h1|h1
    ·rw[hb]at h1;cases h1
    ·have hlt:=hback i _ ho e he hb;rw[QN]at h1 ⊢;rw[Array.getElem?_eq_getElem (by omega)]at h1 ⊢
     simpa using h1
   have hanc:∀j,(DM (ops.toList.map xQ) ops.toList.length ((ops.toList.map xQ).getD i 0)).testBit j=true->listed.getD j true=true:=by
    refine Sr (R:=fun j=>listed.getD j true=true) (fun k d hk hR=> ?_) _ _ ?_
    ·rw[QT,Qb]at hk;obtain⟨o,ho',rfl⟩:=hk;exact Ve (fun e he hb=>hcl k o (by simpa using ho') hR e he hb)
    ·have:(ops.toList.map xQ).getD i 0=xQ ops[i]:=by simp[List.getD_eq_getElem?_getD,hil]
     rw[this];exact Ve (fun e he hb=>hpreT e he hb)
   have hfl:=(Ph _ _ _ _ hrun).1
   obtain⟨p,hp,_,hrest⟩:=Iq l1 i _ l2 S S' fs hrun (fun k fk fi hk hfk hfi=>by
    have hk1:(l1++(i,gs[i]'(by omega))::l2)[k]?=some l1[k]:=by rw[List.getElem?_append_left hk];exact Qv hk
    refine hap k l1.length l1[k] (i,gs[i]'(by omega)) fk fi hk hk1 (by simp) hfk hfi ?_
    cases hb:(DM (ops.toList.map xQ) ops.toList.length ((ops.toList.map xQ).getD i 0)).testBit l1[k].1 with
    |false=>rfl
    |true=>
     have h1:=hanc _ hb;have h2:l1[k]∈qn gs listed:=by rw[hsplit];simp[Q0]
     have h3:=(Dn (i:=l1[k].1) (g:=l1[k].2)).1 h2;rw[h3.2]at h1
     cases h1)
   have hcog:xw P hs ops ops[i]=some (gs[i]'(by omega)):=by
    have:∀(l:List Oper) (r:List SG),l.mapM (xw P hs ops)=some r->∀(k:Nat) (o:Oper) (g:SG),l[k]?=some o->r[k]?=some g->xw P hs ops o=some g:=by
     intro l
     induction l with
     |nil=>intro r _ k o g hk;simp at hk
     |cons x l ihl=>
      intro r hr k o g hk hg;simp only[Qq75,Qd,Qc,Option.pure_def,Qf]at hr;obtain⟨y,hy,ys,hys,rfl⟩:=hr
      cases k with
      |zero=>simp at hk hg;subst hk hg;exact hy
      |succ k=>exact ihl ys hys k o g (by simpa using hk) (by simpa using hg)
    exact this _ _ hc i _ _ (by simp) hgi
   have hstp:xf (Γs i) (base+i) S (gs[i]'(by omega))=some (S.c6 (gs[i]'(by omega)).d p.1 p.2):=by rw[WE,hp];rfl
   have hstep:=yI (K:=wpAnyIn (WF E.rd) 0 P .any ops Q fuel (listed.setIfInBounds i true)) (Q:=Q) (hΓ i) hcog h (nid:=base+i) (by omega) (hd _ (by simp)) hstp (fun a' w' L' h'=>by
    refine ih _ _ a' w' L' (fs.eraseIdx l1.length) (by simpa using hsz) (fun k o hk hlk e he hb=> ?_) hback h' hN (by rw[LQ (by omega) hsplit];exact hrest) ?_ ?_
    ·by_cases hki:k=i
     ·subst hki;rw[ho]at hk;injection hk with hk
      subst hk;have hlt:=hback k _ ho e he hb;have:=hpreT e he hb;simp only[QN]at this ⊢;rw[Array.getElem?_setIfInBounds_ne (by omega)]
      exact this
     ·have hlk':listed.getD k true=true:=by
       simp only[QN]at hlk ⊢;rw[Array.getElem?_setIfInBounds_ne (fun e=>hki e.symm)]at hlk
       exact hlk
      have:=hcl k o hk hlk' e he hb
      by_cases hei:e.on=i
      ·rw[hei,QN,Array.getElem?_setIfInBounds_self_of_lt (by omega)]
       rfl
      ·simp only[QN]at this ⊢;rw[Array.getElem?_setIfInBounds_ne (fun e=>hei e.symm)]
       exact this
    ·rw[LQ (by omega) hsplit]
     intro x y p' q' f h0 hxy hp' hq' hf hh hanc'
     have hget:∀(z:Nat),(l1++l2)[z]?=(l1++(i,gs[i]'(by omega))::l2)[if z<l1.length then z else z+1]?:=by
      intro z;split
      ·rename_i hz;rw[List.getElem?_append_left hz,List.getElem?_append_left hz]
      ·rename_i hz;rw[List.getElem?_append_right (by omega),List.getElem?_append_right (by omega)]
       have:z+1 - l1.length=(z - l1.length)+1:=by omega
       rw[this,List.getElem?_cons_succ]
     have hgetf:∀(z:Nat),(fs.eraseIdx l1.length)[z]?=fs[if z<l1.length then z else z+1]?:=by
      intro z;rw[List.getElem?_eraseIdx];split<;>rfl
     rw[hget]at hp' hq';rw[hgetf]at hf hh;refine hap _ _ p' q' f h0 ?_ hp' hq' hf hh hanc';split<;>split<;>omega
    ·rw[LQ (by omega) hsplit]
     rw[hsplit]at hfu;simp at hfu ⊢
     omega)
   unfold wpOpIn;rw[ho];simp only;split
   ·rename_i hw;rw[Qr hw]at hstep;exact hstep
   ·rename_i hw;rw[Qs hw]at hstep;exact hstep
theorem Wg{ops:List Oper}{i j:Nat}(hj:j<ops.length)(hij:i<j)(h:(DM (ops.map xQ) ops.length ((ops.map xQ).getD j 0)).testBit i=false):(i,j)∈Pc ops:=by
 unfold Pc;simp only[QQ,List.mem_range,List.mem_filterMap];exact⟨j,hj,i,hij,by rw[h];rfl⟩
theorem ab1{g h:SG}{f e:w6}(hf:f.d=g.d/\f.us=g.bX)(he:e.d=h.d/\e.us=h.bX)(ha:P4 g h=true)(hi:DB f e=true):Zc f e:=by
 unfold P4 at ha;unfold DB at hi;rw[Qm]at ha hi;obtain⟨a1,a2⟩:=ha;obtain⟨i1,i2⟩:=hi;refine⟨fun t ht=> ?_,fun t ht=> ?_,fun t ht hq=> ?_,fun i hw=> ?_,fun i hw=> ?_,fun i hw hq=> ?_⟩
 ·rw[hf.1]at ht;rw[ht]at a1;simp only[Qm,Bool.not_eq_true',List.contains_eq_mem,Qj]at a1;rw[he.2];exact a1.1
 ·rw[he.1]at ht;rw[ht]at a2;simp only[Bool.not_eq_true',List.contains_eq_mem,Qj]at a2;rw[hf.2];exact a2
 ·rw[hf.1]at ht;rw[he.1]at hq;rw[ht,hq]at a1;simp at a1
 ·rw[hw]at i1;simp only[Qm,Bool.not_eq_true',List.contains_eq_mem,Qj]at i1;exact i1.1
 ·rw[hw]at i2;simp only[Bool.not_eq_true',List.contains_eq_mem,Qj]at i2;exact i2
 ·rw[hw,hq]at i1;simp at i1
theorem abJ(gs:List SG)(n:Nat)(hn:gs.length=n):qn gs (Array.replicate n false)=gs.zipIdx.map fun p=>(p.2,p.1):=by
 unfold qn;rw[List.filter_eq_self];rintro⟨i,g⟩ hp;simp only[QP,Prod.mk.injEq,Prod.exists]at hp;obtain⟨x,j,h1,rfl,rfl⟩:=hp;rw[List.mem_zipIdx_iff_getElem?]at h1;have:=(Qw.1 h1).1;simp only[QN,Array.getElem?_replicate];rw[Qr (by omega)]
 rfl
theorem ah0{Γs:Nat->pM}(hΓ:∀i,oP P (Γs i))(hm:P.follows .mixedOrders=true){nt id:Nat}{ops:Array Oper}{gs:List SG}{un:List (Nat×Nat)}{Q:Exit->St->Prop}{S S':St}(hc:ops.toList.mapM (xw P hs ops)=some gs)(hd:∀o∈ops.toList,∀t,o.dst=some t->t<nt)
  (hu:YU ops.toList gs=some un) (hr:Pj Γs S.N un gs {S with N:=S.N+gs.length}=some S') (h:Q .normal S'):V P nt (.region id ops true) Q S:=fun E hE hk a w L hrel=>by
 have hl:gs.length=ops.size:=by have:=xm hc;simpa using this
 refine wpIn_region_any hm ?_;unfold YU at hu;simp only at hu;split at hu
 ·rename_i hchk;injection hu with hu
  rw[Qm]at hchk;obtain⟨hap,hback⟩:=hchk;unfold Pj at hr;split at hr
  ·cases hr
  ·rename_i S1 fs hrun;split at hr
   ·rename_i hall;injection hr with hr
    subst hr;have hfp:=Ph _ _ _ _ hrun;have hpd:=abJ gs ops.size hl;refine ab8 (E:=E) (base:=S.N) hΓ hc (aaO hE hk hd) (fun a' w' L' h'=>⟨S1,L',h',h⟩) ops.size (Array.replicate ops.size false) {S with N:=S.N+gs.length} a _ L fs (by simp) ?_ ?_ ((hrel.room gs.length).drew _) (by simp[hl]) (by rw[hpd];exact hrun) ?_ (by rw[hpd];simp[hl])
    ·intro i o ho hli;exfalso;have:=(Q9.1 ho).1;simp only[QN,Array.getElem?_replicate]at hli;rw[Qr this]at hli;cases hli
    ·intro i o ho e he hb;have h1:=QH.1 hback (o,i) (by rw[List.mem_zipIdx_iff_getElem?];simpa using ho)
     have h2:=QH.1 h1 e (by simpa using he)
     rw[hb]at h2;simpa using h2
    ·rw[hpd];intro x y p q f e hxy hp hq hf he hanc
     have hget:∀(z:Nat) (r:Nat×SG),(gs.zipIdx.map fun p=>(p.2,p.1))[z]?=some r->r.1=z/\gs[z]?=some r.2:=by
      intro z r hz;simp only[QT,Qb,Prod.exists,List.getElem?_zipIdx,Prod.mk.injEq]at hz;obtain⟨u,v,⟨u',hu',rfl,rfl⟩,rfl⟩:=hz;exact⟨by simp,hu'⟩
     obtain⟨p1,p2⟩:=hget x p hp;obtain⟨q1,q2⟩:=hget y q hq;have fx:=hfp.2 x p.1 p.2 f hp hf;have fy:=hfp.2 y q.1 q.2 e hq he;have hy:y<ops.toList.length:=by have:=(Qw.1 q2).1;simp;omega
     rw[p1,q1]at hanc;have hmem:=Wg hy hxy hanc;have ha:=QH.1 hap _ hmem;simp only[p2,q2]at ha;refine ab1 ⟨fx.1,fx.2.1⟩ ⟨fy.1,fy.2.1⟩ ha ?_
     cases htx:p.2.op.sj with
     |false=>
      obtain⟨r1,r2⟩:=fx.2.2 htx;unfold DB;rw[r1,r2];cases e.wr<;>simp
     |true=>
      cases hty:q.2.op.sj with
      |false=>
       obtain⟨r1,r2⟩:=fy.2.2 hty;unfold DB;rw[r1,r2];cases f.wr<;>simp
      |true=>
       have hin:(x,y)∈un:=by
        rw[<-hu,List.mem_filter];exact⟨hmem,by simp[p2,q2,htx,hty]⟩
       have:=QH.1 hall _ hin;simpa[hf,he]using this
   ·cases hr
 ·cases hu
end
end
end Go.TQ
end
