/-
  Texts made small by a program (see NOTES). Conditions: those that each theorem names.
-/
import Derived.Maps.AppendAt
import Derived.Below
import Derived.Orders
import Derived.Tactics
import Derived.Deep.MidRow
import Derived.RangeFuncLeaves
import Derived.WalkKit
import Derived.Lib.Bytes
import Derived.Laws.Tables
import Derived.Laws.MakeOwn
import Derived.Laws.Cover3
import Derived.Laws.StructEq
import Derived.Sort.LoopGhostIn
import Derived.OrdersIn
set_option linter.unusedVariables false
set_option linter.unusedSimpArgs false
set_option linter.unusedSectionVars false
set_option maxHeartbeats 2000000
namespace Go
theorem Qa : type_of% @Option.bind_some := @Option.bind_some
theorem Qb : type_of% @Option.map_eq_some_iff := @Option.map_eq_some_iff
theorem Qc : type_of% @Option.bind_eq_some_iff := @Option.bind_eq_some_iff
theorem Qd : type_of% @Option.bind_eq_bind := @Option.bind_eq_bind
theorem Qe : type_of% @Option.map_some := @Option.map_some
theorem Qf : type_of% @Option.some.injEq := @Option.some.injEq
theorem Qg : type_of% @decide_eq_true := @decide_eq_true
theorem Qh : type_of% @decide_eq_false := @decide_eq_false
theorem Qi : type_of% @decide_eq_true_eq := @decide_eq_true_eq
theorem Qj : type_of% @decide_eq_false_iff_not := @decide_eq_false_iff_not
theorem Qk : type_of% @cond_true := @cond_true
theorem Ql : type_of% @cond_false := @cond_false
theorem Qm : type_of% @Bool.and_eq_true := @Bool.and_eq_true
theorem Qn : type_of% @Bool.or_eq_true := @Bool.or_eq_true
theorem Qo : type_of% @Bool.not_true := @Bool.not_true
theorem Qp : type_of% @Bool.not_false := @Bool.not_false
theorem Qq : type_of% @Bool.false_eq_true := @Bool.false_eq_true
theorem Qr : type_of% @if_pos := @if_pos
theorem Qs : type_of% @if_neg := @if_neg
theorem Qt : type_of% @if_true := @if_true
theorem Qu : type_of% @if_false := @if_false
theorem Qv : type_of% @List.getElem?_eq_getElem := @List.getElem?_eq_getElem
theorem Qw : type_of% @List.getElem?_eq_some_iff := @List.getElem?_eq_some_iff
theorem Qx : type_of% @List.mem_cons_self := @List.mem_cons_self
theorem Qy : type_of% @List.mem_cons_of_mem := @List.mem_cons_of_mem
theorem Qz : type_of% @List.mem_append := @List.mem_append
theorem QA : type_of% @List.mem_cons := @List.mem_cons
theorem QB : type_of% @List.length_append := @List.length_append
theorem QC : type_of% @List.length_map := @List.length_map
theorem QD : type_of% @List.map_cons := @List.map_cons
theorem QE : type_of% @List.length_cons := @List.length_cons
theorem QF : type_of% @Nat.eq_of_beq_eq_true := @Nat.eq_of_beq_eq_true
theorem QG : type_of% @Nat.le_of_ble_eq_true := @Nat.le_of_ble_eq_true
theorem QH : type_of% @List.all_eq_true := @List.all_eq_true
theorem QI : type_of% @Nat.le_refl := @Nat.le_refl
theorem QJ : type_of% @Nat.lt_of_lt_of_le := @Nat.lt_of_lt_of_le
theorem QK : type_of% @Nat.le_trans := @Nat.le_trans
theorem QL : type_of% @List.append_assoc := @List.append_assoc
theorem QM : type_of% @List.drop_eq_getElem_cons := @List.drop_eq_getElem_cons
theorem QN : type_of% @Array.getD_eq_getD_getElem? := @Array.getD_eq_getD_getElem?
theorem QO : type_of% @List.map_nil := @List.map_nil
theorem QP : type_of% @List.mem_map := @List.mem_map
theorem QQ : type_of% @List.mem_flatMap := @List.mem_flatMap
theorem QR : type_of% @List.not_mem_nil := @List.not_mem_nil
theorem QS : type_of% @Nat.zero_le := @Nat.zero_le
theorem QT : type_of% @List.getElem?_map := @List.getElem?_map
theorem QU : type_of% @List.foldl_cons := @List.foldl_cons
theorem QV : type_of% @Int.toNat_natCast := @Int.toNat_natCast
theorem QW : type_of% @Bool.eq_iff_iff := @Bool.eq_iff_iff
theorem QX : type_of% @Bool.not_eq_true := @Bool.not_eq_true
theorem QY : type_of% @List.length_set := @List.length_set
theorem QZ : type_of% @List.length_nil := @List.length_nil
theorem Q0 : type_of% @List.getElem_mem := @List.getElem_mem
theorem Q1 : type_of% @List.mem_of_mem_take := @List.mem_of_mem_take
theorem Q2 : type_of% @List.mem_of_mem_drop := @List.mem_of_mem_drop
theorem Q3 : type_of% @Option.getD_some := @Option.getD_some
theorem Q4 : type_of% @List.pairwise_cons := @List.pairwise_cons
theorem Q5 : type_of% @List.mem_singleton := @List.mem_singleton
theorem Q6 : type_of% @List.length_singleton := @List.length_singleton
theorem Q7 : type_of% @List.take_succ_eq_append_getElem := @List.take_succ_eq_append_getElem
theorem Q8 : type_of% @List.mem_of_getElem? := @List.mem_of_getElem?
theorem Q9 : type_of% @Array.getElem?_eq_some_iff := @Array.getElem?_eq_some_iff
theorem Qq62 : type_of% @List.take_length := @List.take_length
theorem Qq63 : type_of% @Nat.mul_le_mul_right := @Nat.mul_le_mul_right
theorem Qq64 : type_of% @Int.lt_irrefl := @Int.lt_irrefl
theorem Qq65 : type_of% @Option.map_none := @Option.map_none
theorem Qq66 : type_of% @List.drop_length := @List.drop_length
theorem Qq67 : type_of% @List.eq_nil_of_length_eq_zero := @List.eq_nil_of_length_eq_zero
theorem Qq68 : type_of% @List.getElem?_take := @List.getElem?_take
theorem Qq69 : type_of% @List.pairwise_append := @List.pairwise_append
theorem Qq70 : type_of% @List.all_cons := @List.all_cons
theorem Qq71 : type_of% @List.map_congr_left := @List.map_congr_left
theorem Qq72 : type_of% @List.getElem?_eq_none := @List.getElem?_eq_none
theorem Qq73 : type_of% @Nat.add_mul := @Nat.add_mul
theorem Qq74 : type_of% @Bool.or_eq_false_iff := @Bool.or_eq_false_iff
theorem Qq75 : type_of% @List.mapM_cons := @List.mapM_cons
end Go
noncomputable section
namespace Go.TQ
section
inductive PV where
 |any
 |undef
 |int (k:IntKind) (n:Int)
 |bool (b:Bool)
 |gH
 |str (s:ByteArray)
 |kJ
 |dR
 |bG (f:FuncId) (caps:List PV)
 |jk (f:FuncId) (first:List PV)
 |agg (cs:List PV)
 |dO (cs:List PV)
 |ptr (id ao off:Nat)
 |ref (cs:List PV)
 |sl (es:List (List PV))
 |own (id ao:Nat)
 |eQ (id ao k i off:Nat)
 |view (id ao k lo n:Nat)
 |iK (ks vs:List PV)
structure Gh where
 N:Nat
 L:Nat->Value
 V:Nat->Nat
def dj:Gh:=⟨0,fun _=> .bool false,fun _=>0⟩
def cq:Value->Option Nat
 | .pointer (some a)=>some a.block
 | .slice (some a) _ _=>some a.block
 |_=>none
def R7(l:Value)(k lo n:Nat)(a:Option Addr)(c:Nat):Prop:=
 ∃a0 m c0,l= .slice a0 m c0/\lo+n<=m/\m<=c0/\c=c0 - lo/\((n=0/\lo≠0/\(a=none->a0=none))\/a=a0.map (·.add (lo*k)))
inductive bg (w:World) (M:Nat->Prop):Gh->PV->Value->Prop where
 |any {G:Gh} (v:Value):bg w M G .any v
 |undef {G:Gh}:bg w M G .undef Go.undef
 |int {G:Gh} (k:IntKind) (n:Int):bg w M G (.int k n) (.int k n)
 |bool {G:Gh} (b:Bool):bg w M G (.bool b) (.bool b)
 |gH {G:Gh} (b:Bool):bg w M G .gH (.bool b)
 |str {G:Gh} (s:ByteArray):bg w M G (.str s) (.string s)
 |kJ {G:Gh}:bg w M G .kJ (.pointer none)
 |dR {G:Gh}:bg w M G .dR (.slice none 0 0)
 |bG {G:Gh} (f:FuncId) (caps:List PV) (vs:List Value) (hl:vs.length=caps.length) (h:∀(i:Nat) (x:PV) (v:Value),caps[i]?=some x->vs[i]?=some v->bg w M G x v):bg w M G (.bG f caps) (.func (.func f) #[] vs.toArray)
 |jk {G:Gh} (f:FuncId) (cs:List PV) (vs:List Value) (hl:vs.length=cs.length) (h:∀(i:Nat) (x:PV) (v:Value),cs[i]?=some x->vs[i]?=some v->bg w M G x v):bg w M G (.jk f cs) (.func (.func f) vs.toArray #[])
 |agg {G:Gh} (cs:List PV) (vs:List Value) (hl:vs.length=cs.length) (h:∀(i:Nat) (x:PV) (v:Value),cs[i]?=some x->vs[i]?=some v->bg w M G x v):bg w M G (.agg cs) (.agg vs.toArray)
 |dO {G:Gh} (cs:List PV) (vs:List Value) (hl:vs.length=cs.length) (h:∀(i:Nat) (x:PV) (v:Value),cs[i]?=some x->vs[i]?=some v->bg w M G x v):bg w M G (.dO cs) (.tuple vs.toArray)
 |ptr {G:Gh} (id ao off:Nat) (a:Option Addr) (hN:id<G.N) (hV:ao<=G.V id) (h:ao=G.V id->a=(cq (G.L id)).map fun b=>⟨b,off,none⟩):bg w M G (.ptr id ao off) (.pointer a)
 |ref {G:Gh} (cs:List PV) (a:Addr) (vs:List Value) (hl:vs.length=cs.length) (hc:∀(i:Nat) (v:Value),vs[i]?=some v->w.cell? (a.add i)=some v/\¬M a.block)
   (h:∀(i:Nat) (x:PV) (v:Value),cs[i]?=some x->vs[i]?=some v->bg w M dj x v):bg w M G (.ref cs) (.pointer (some a))
 |sl {G:Gh} (es:List (List PV)) (a:Addr) (c k:Nat) (vs:List Value) (hk:∀e∈es,e.length=k) (hl:vs.length=es.flatten.length) (hc:∀(i:Nat) (v:Value),vs[i]?=some v->w.cell? (a.add i)=some v/\¬M a.block)
   (h:∀(i:Nat) (x:PV) (v:Value),es.flatten[i]?=some x->vs[i]?=some v->bg w M dj x v) (hn:es.length<=c) (hm:c<=maxLen):bg w M G (.sl es) (.slice (some a) es.length c)
 |slnil {G:Gh}:bg w M G (.sl []) (.slice none 0 0)
 |own {G:Gh} (id ao:Nat) (a:Option Addr) (n c:Nat) (hN:id<G.N) (hV:ao<=G.V id) (h:ao=G.V id-> .slice a n c=G.L id):bg w M G (.own id ao) (.slice a n c)
 |eQ {G:Gh} (id ao k i off:Nat) (a:Option Addr) (hN:id<G.N) (hV:ao<=G.V id) (h:ao=G.V id->a=(cq (G.L id)).map fun b=>⟨b,i*k+off,none⟩):bg w M G (.eQ id ao k i off) (.pointer a)
 |view {G:Gh} (id ao k lo n:Nat) (a:Option Addr) (c:Nat) (hN:id<G.N) (hV:ao<=G.V id) (h:ao=G.V id->R7 (G.L id) k lo n a c):bg w M G (.view id ao k lo n) (.slice a n c)
 |iK {G:Gh} (ks vs:List PV) (b:Nat) (es:Array MapEntry) (ck:Nat) (hb:w.heap[b]?=some (.map es ck)) (hM:¬M b) (hk:es.size=ks.length) (hv:es.size=vs.length)
   (h1:∀(i:Nat) (x:PV) (e:MapEntry),ks[i]?=some x->es[i]?=some e->bg w M dj x e.key) (h2:∀(i:Nat) (x:PV) (e:MapEntry),vs[i]?=some x->es[i]?=some e->bg w M dj x e.val):bg w M G (.iK ks vs) (.map (some b))
def bf(w:World)(M:Nat->Prop)(G:Gh)(cs:List PV)(vs:List Value):Prop:=
 vs.length=cs.length/\∀(i:Nat) (x:PV) (v:Value),cs[i]?=some x->vs[i]?=some v->bg w M G x v
structure Gh.le (G G':Gh):Prop where
 N:G.N<=G'.N
 at_:∀id,id<G.N->(G.V id=G'.V id/\G.L id=G'.L id)\/G.V id<G'.V id
theorem Gh.le.refl(G:Gh):G.le G:=⟨QI _,fun _ _=> .inl ⟨rfl,rfl⟩⟩
structure dI (w w':World) (M M':Nat->Prop):Prop where
 c:∀(a:Addr) (v:Value),w.cell? a=some v->¬M a.block->w'.cell? a=some v/\¬M' a.block
 m:∀(b:Nat) (es:Array MapEntry) (ck:Nat),w.heap[b]?=some (.map es ck)->¬M b->w'.heap[b]?=some (.map es ck)/\¬M' b
theorem dI.of{w:World}{M M':Nat->Prop}(h:∀b,¬M b->¬M' b):dI w w M M':=⟨fun _ _ hp hm=>⟨hp,h _ hm⟩,fun _ _ _ hb hm=>⟨hb,h _ hm⟩⟩
theorem bg.ad2{w w':World}{M M':Nat->Prop}{G:Gh}(hs:dI w w' M M'){x:PV}{v:Value}(h:bg w M G x v):∀G',G.le G'->bg w' M' G' x v:=by
 induction h with
 |any v=>exact fun _ _=> .any v
 |undef=>exact fun _ _=> .undef
 |int k n=>exact fun _ _=> .int k n
 |bool b=>exact fun _ _=> .bool b
 |gH b=>exact fun _ _=> .gH b
 |str s=>exact fun _ _=> .str s
 |kJ=>exact fun _ _=> .kJ
 |dR=>exact fun _ _=> .dR
 |bG f caps vs hl _ ih=>exact fun G' hg=> .bG f caps vs hl fun i x v hx hv=>ih i x v hx hv G' hg
 |jk f cs vs hl _ ih=>exact fun G' hg=> .jk f cs vs hl fun i x v hx hv=>ih i x v hx hv G' hg
 |agg cs vs hl _ ih=>exact fun G' hg=> .agg cs vs hl fun i x v hx hv=>ih i x v hx hv G' hg
 |dO cs vs hl _ ih=>exact fun G' hg=> .dO cs vs hl fun i x v hx hv=>ih i x v hx hv G' hg
 |ptr id ao off a hN hV h=>
  intro G' hg;refine .ptr id ao off a (QJ hN hg.N) ?_ ?_
  ·rcases hg.at_ id hN with⟨e,_⟩|e<;>omega
  ·intro e;rcases hg.at_ id hN with⟨e1,e2⟩|e1
   ·rw[<-e2];exact h (by omega)
   ·omega
 |ref cs a vs hl hc _ ih=>
  intro G' _
  exact .ref cs a vs hl (fun i v hv=>by
   obtain⟨h1,h2⟩:=hc i v hv;have hb:(a.add i).block=a.block:=by unfold Addr.add;split<;>rfl
   have:=hs.c _ _ h1 (by rw[hb];exact h2)
   rw[hb]at this
   exact this) fun i x v hx hv=>ih i x v hx hv dj (Gh.le.refl _)
 |sl es a c k vs hk hl hc _ hn hm ih=>
  intro G' _
  exact .sl es a c k vs hk hl (fun i v hv=>by
   obtain⟨h1,h2⟩:=hc i v hv;have hb:(a.add i).block=a.block:=by unfold Addr.add;split<;>rfl
   have:=hs.c _ _ h1 (by rw[hb];exact h2)
   rw[hb]at this
   exact this) (fun i x v hx hv=>ih i x v hx hv dj (Gh.le.refl _)) hn hm
 |slnil=>exact fun _ _=> .slnil
 |own id ao a n c hN hV h=>
  intro G' hg;refine .own id ao a n c (QJ hN hg.N) ?_ ?_
  ·rcases hg.at_ id hN with⟨e,_⟩|e<;>omega
  ·intro e;rcases hg.at_ id hN with⟨e1,e2⟩|e1
   ·rw[<-e2];exact h (by omega)
   ·omega
 |eQ id ao k i off a hN hV h=>
  intro G' hg;refine .eQ id ao k i off a (QJ hN hg.N) ?_ ?_
  ·rcases hg.at_ id hN with⟨e,_⟩|e<;>omega
  ·intro e;rcases hg.at_ id hN with⟨e1,e2⟩|e1
   ·rw[<-e2];exact h (by omega)
   ·omega
 |view id ao k lo n a c hN hV h=>
  intro G' hg;refine .view id ao k lo n a c (QJ hN hg.N) ?_ ?_
  ·rcases hg.at_ id hN with⟨e,_⟩|e<;>omega
  ·intro e;rcases hg.at_ id hN with⟨e1,e2⟩|e1
   ·rw[<-e2];exact h (by omega)
   ·omega
 |iK ks vs b es ck hb hM hk hv _ _ ih1 ih2=>
  intro G' _;exact .iK ks vs b es ck (hs.m _ _ _ hb hM).1 (hs.m _ _ _ hb hM).2 hk hv (fun i x e hx he=>ih1 i x e hx he dj (Gh.le.refl _)) fun i x e hx he=>ih2 i x e hx he dj (Gh.le.refl _)
theorem bg.mono{w w':World}{M M':Nat->Prop}{G G':Gh}(hs:dI w w' M M')(hg:G.le G'){x:PV}{v:Value}(h:bg w M G x v):bg w' M' G' x v:=h.ad2 hs G' hg
theorem dj.le(G:Gh):dj.le G:=⟨QS _,fun _ h=>absurd h (Nat.not_lt_zero _)⟩
theorem bf.mono{w w':World}{M M':Nat->Prop}{G G':Gh}(hs:dI w w' M M')(hg:G.le G'){cs:List PV}{vs:List Value}(h:bf w M G cs vs):bf w' M' G' cs vs:=
 ⟨h.1,fun i x v hx hv=>(h.2 i x v hx hv).mono hs hg⟩
section
variable {w : World} {M : Nat -> Prop} {G : Gh}
theorem bf.nil:bf w M G [] []:=⟨rfl,fun i x v h _=>by simp at h⟩
theorem bf.cons{x:PV}{v:Value}{cs:List PV}{vs:List Value}(h:bg w M G x v)(t:bf w M G cs vs):bf w M G (x::cs) (v::vs):=by
 refine⟨by simp[t.1],fun i y u hy hu=> ?_⟩
 cases i with
 |zero=>simp at hy hu;subst hy hu;exact h
 |succ i=>simp at hy hu;exact t.2 i y u hy hu
theorem bf.cons_inv{x:PV}{cs:List PV}{vs:List Value}(h:bf w M G (x::cs) vs):∃v vs',vs=v::vs'/\bg w M G x v/\bf w M G cs vs':=by
 obtain⟨hl,h⟩:=h
 cases vs with
 |nil=>simp at hl
 |cons v vs=>exact⟨v,vs,rfl,h 0 x v (by simp) (by simp),by simpa using hl,fun i y u hy hu=>h (i+1) y u (by simpa using hy) (by simpa using hu)⟩
theorem bf.nY{vs:List Value}(h:bf w M G [] vs):vs=[]:=Qq67 h.1
theorem bf.append{cs ds:List PV}{vs us:List Value}(h:bf w M G cs vs)(k:bf w M G ds us):bf w M G (cs++ds) (vs++us):=by
 refine⟨by simp[h.1,k.1],fun i x v hx hv=> ?_⟩
 by_cases hi:i<cs.length
 ·rw[List.getElem?_append_left hi]at hx;rw[List.getElem?_append_left (by rw[h.1];exact hi)]at hv
  exact h.2 i x v hx hv
 ·rw[List.getElem?_append_right (by omega)]at hx
  rw[List.getElem?_append_right (by rw[h.1];omega),h.1]at hv
  exact k.2 _ x v hx hv
theorem bf.take{cs:List PV}{vs:List Value}(h:bf w M G cs vs)(n:Nat):bf w M G (cs.take n) (vs.take n):=by
 refine⟨by simp[h.1],fun i x v hx hv=> ?_⟩
 rw[Qq68]at hx hv;split at hx
 ·rename_i hi;rw[Qr hi]at hv;exact h.2 i x v hx hv
 ·cases hx
theorem bf.drop{cs:List PV}{vs:List Value}(h:bf w M G cs vs)(n:Nat):bf w M G (cs.drop n) (vs.drop n):=by
 refine⟨by simp[h.1],fun i x v hx hv=> ?_⟩
 rw[List.getElem?_drop]at hx hv;exact h.2 _ x v hx hv
theorem bf.get{cs:List PV}{vs:List Value}(h:bf w M G cs vs){i:Nat}{x:PV}(hx:cs[i]?=some x):∃v,vs[i]?=some v/\bg w M G x v:=by
 have hi:i<vs.length:=by rw[h.1];exact(Qw.1 hx).1
 exact⟨vs[i],Qv hi,h.2 i x _ hx (Qv hi)⟩
def PV.one:PV->Bool
 | .int ..| .bool _| .gH| .str _| .kJ| .dR| .bG ..| .jk ..| .ptr ..| .eQ ..| .ref _| .sl _| .own ..| .view ..| .iK ..=>true
 |_=>false
def PV.cells:PV->List PV
 | .agg cs=>cs
 |x=>[x]
theorem bg.one{x:PV}{v:Value}(h:bg w M G x v)(h1:x.one=true):v.oneCell'=true/\v.cells=#[v]:=by
 cases h<;>simp[PV.one]at h1<;>exact⟨rfl,rfl⟩
theorem bg.cells{x:PV}{v:Value}(h:bg w M G x v)(h1:∀y∈x.cells,y.one=true):bf w M G x.cells v.cells.toList/\∀u∈v.cells.toList,u.oneCell'=true:=by
 have go:∀{cs:List PV} {vs:List Value},bf w M G cs vs->(∀y∈cs,y.one=true)->∀u∈vs,u.oneCell'=true:=by
  intro cs vs hr h1 u hu;obtain⟨i,hi,rfl⟩:=List.mem_iff_getElem.1 hu;have hx:i<cs.length:=by rw[<-hr.1];exact hi
  exact((hr.2 i cs[i] vs[i] (Qv hx) (Qv hi)).one (h1 _ (Q0 hx))).1
 cases hx:x with
 |agg cs=>
  subst hx
  cases h with
  |agg _ vs hl h=>
   have hr:bf w M G cs vs:=⟨hl,h⟩;exact⟨by simpa[PV.cells,Value.cells]using hr,by simpa[Value.cells]using go hr (by simpa[PV.cells]using h1)⟩
 |_=>
  have hc:x.cells=[x]:=by rw[hx];rfl
  rw[<-hx];rw[hc]at h1;obtain⟨h2,h3⟩:=h.one (h1 x (by simp))
  rw[hc,h3];exact⟨.cons h .nil,by simpa using h2⟩
end
end
section
open Go.RowKit
inductive wQ where
 |dead
 |box (cs:List PV)
 |row (e:TypeId) (k:Nat) (es:List (List PV))
structure fT where
 ao:Nat
 c:wQ
def wQ.live:wQ->Bool
 | .dead=>false
 |_=>true
structure St where
 env:Nat->PV
 H:Nat->fT
 N:Nat
def bO{α:Type}(f:Nat->α)(i:Nat)(x:α):Nat->α:=fun j=>if j=i then x else f j
theorem cr{α:Type}(f:Nat->α)(i:Nat)(x:α):bO f i x i=x:=by simp[bO]
theorem cD{α:Type}(f:Nat->α){i j:Nat}(x:α)(h:j≠i):bO f i x j=f j:=by simp[bO,h]
def ZH:Obj->Bool
 | .cells ..=>true
 |_=>false
def P9:Obj->Bool
 | .cells ..| .map ..=>true
 |_=>false
theorem aa0{o:Obj}(h:ZH o=true):P9 o=true:=by cases o<;>first|rfl|cases h
structure Cc (w w':World):Prop where
 size:w.heap.size<=w'.heap.size
 same:∀(k:Nat) (o:Obj),w.heap[k]?=some o->ZH o=false->w'.heap[k]?=some o
theorem Cc.refl(w:World):Cc w w:=⟨QI _,fun _ _ h _=>h⟩
theorem Cc.trans{a b c:World}(h:Cc a b)(k:Cc b c):Cc a c:=⟨QK h.size k.size,fun i o hi ho=>k.same i o (h.same i o hi ho) ho⟩
def WF(rd:Option Nat):Fence:={Fence.wide with round:=rd}
theorem LJ{rd:Option Nat}{n:Nat}{P:Program}{f:FuncId}{args:Array Value}{w:World}{R:Ending->World->Prop}:CallsIn (WF rd) n P f args w R↔Calls P f args w R:=
 (show CallsIn (WF rd) n P f args w R↔CallsIn Fence.wide n P f args w R from Iff.rfl).trans callsIn_wide
structure En where
 w0:World
 rb:Option Nat
 nt:Nat
 rd:Option Nat
 nd:Bool
 kt:Nat->Option Value
 wk:World
 X:Nat->Prop
 hX:∀b,X b->b<w0.heap.size
 JD:Bool
 rv:Value
 rk:Bool
 Li:∀b,rb=some b->b<w0.heap.size
 Rg:rk=true->∀b,rb=some b->¬X b
def gp(E:En)(v:Value):Nat:=if E.rk=true/\E.rb≠none/\cq v=E.rb then 0 else E.w0.heap.size
theorem Al{E:En}{v v':Value}(h:cq v=cq v'):gp E v=gp E v':=by simp[gp,h]
theorem Ko(E:En)(v:Value):gp E v<=E.w0.heap.size:=by unfold gp;split<;>omega
theorem Iv{E:En}{v:Value}{g:Nat}(h:cq v=some g)(hg:E.w0.heap.size<=g):gp E v=E.w0.heap.size:=by
 unfold gp;rw[Qs];rintro⟨_,_,h1⟩;rw[h]at h1;have:=E.Li g h1.symm;omega
theorem Ew{E:En}{v:Value}{g:Nat}(h:cq v=some g)(hb:gp E v<=g):(E.rk=true/\E.rb=some g)\/E.w0.heap.size<=g:=by
 unfold gp at hb;split at hb
 ·rename_i hc;exact .inl ⟨hc.1,by rw[<-hc.2.2,h]⟩
 ·exact .inr hb
structure Fr (rb:Option Nat) (w0 w:World):Prop where
 os:w.os=w0.os
 tape:w.tape=w0.tape
 output:w.output=w0.output
 size:w0.heap.size<=w.heap.size
 block:∀b,b<w0.heap.size->rb≠some b->w.heap[b]?=w0.heap[b]?
 drawn:w0.drawn<=w.drawn
theorem Fr.refl(rb:Option Nat)(w:World):Fr rb w w:=⟨rfl,rfl,rfl,QI _,fun _ _ _=>rfl,QI _⟩
def bs(E:En)(S:St)(L:Nat->Value)(b:Nat):Prop:=(∃id,id<S.N/\(S.H id).c.live=true/\cq (L id)=some b)\/E.X b
def St.gh(S:St)(L:Nat->Value):Gh:=⟨S.N,L,fun id=>(S.H id).ao⟩
def vQ(E:En)(w:World)(M:Nat->Prop)(G:Gh)(v:Value):wQ->Prop
 | .dead=>True
 | .box cs=>∃(b:Nat) (cur:Array Value) (T:TypeId),v= .pointer (some ⟨b,0,none⟩)/\w.heap[b]?=some (.cells cur T (0,0))/\(E.rb=some b\/E.w0.heap.size<=b)/\bf w M G cs cur.toList
 | .row e k es=>∃(vs:List Value),w.ownsRow (gp E v) e k v es.length vs/\(∀x∈es,x.length=k)/\bf w M G es.flatten vs
def En.can(E:En)(d:Nat):Prop:=d<E.nt/\E.kt d=none
structure Marks (E:En) (a:Act) (w:World):Prop where
 none:E.nd=true->a.defers=[]
 nodup:a.defers.Nodup
 at_:∀d∈a.defers,∃D,d={target:= .collected D,args:=#[]}/\E.w0.heap.size<=D/\w.heap[D]?=some (.deferred (some []))
theorem Marks.nil{E:En}{a:Act}{w:World}(h:a.defers=[]):Marks E a w:=⟨fun _=>h,by rw[h];exact List.nodup_nil,fun d hd=>by rw[h]at hd;cases hd⟩
structure FrE (E:En) (w:World):Prop extends Fr E.rb E.w0 w where
 ko:Cc E.wk w
structure Rel (E:En) (S:St) (a:Act) (w:World) (L:Nat->Value):Prop where
 defers:Marks E a w
 size:a.tmps.size=E.nt/\∀t v,E.kt t=some v->a.tmps.getD t undef=v
 env:∀t,bg w (bs E S L) (S.gh L) (S.env t) (a.tmps.getD t undef)
 obj:∀id,id<S.N->vQ E w (bs E S L) (S.gh L) (L id) (S.H id).c
 apart:∀i j b,i<S.N->j<S.N->(S.H i).c.live=true->(S.H j).c.live=true->cq (L i)=some b->cq (L j)=some b->i=j
 fresh:∀id,S.N<=id->S.H id=⟨0,.dead⟩
 fr:FrE E w
 BA:E.JD=true->(S.H 0).c.live=true->(S.H 0).ao=0->L 0=E.rv
theorem G7(a:Addr)(i:Nat):(a.add i).block=a.block:=by unfold Addr.add;split<;>rfl
theorem T1{w:World}{a:Addr}{v:Value}(h:w.cell? a=some v):a.block<w.heap.size:=World.block_lt_of_cell? w a h
theorem vQ.mono{E:En}{w w':World}{M M':Nat->Prop}{G G':Gh}{v:Value}{c:wQ}(hs:dI w w' M M')(hg:G.le G')
  (hb:∀b,cq v=some b->b<w.heap.size->w'.heap[b]?=w.heap[b]?) (h:vQ E w M G v c):vQ E w' M' G' v c:=by
 cases c with
 |dead=>trivial
 |box cs=>
  obtain⟨b,cur,T,rfl,hh,hE,hr⟩:=h;exact⟨b,cur,T,rfl,(hb b rfl (Q9.1 hh).1).trans hh,hE,hr.mono hs hg⟩
 |row e k cs=>
  obtain⟨vs,ho,hk,hr⟩:=h;refine⟨vs,⟨ho.1,?_⟩,hk,hr.mono hs hg⟩;rcases ho.2 with hn|⟨g,cap,cur,rfl,hb1,hh,rest⟩
  ·exact .inl hn
  ·exact .inr ⟨g,cap,cur,rfl,hb1,(hb g rfl (Q9.1 hh).1).trans hh,rest⟩
theorem vQ.xT{E:En}{w:World}{M:Nat->Prop}{G:Gh}{v:Value}{c:wQ}(h:vQ E w M G v c)(hl:c.live=true){b:Nat}(hb:cq v=some b):
  b<w.heap.size/\(E.rb=some b\/E.w0.heap.size<=b):=by
 cases c with
 |dead=>cases hl
 |box cs=>
  obtain⟨b',cur,T,rfl,hh,hE,_⟩:=h;simp only[cq,Qf]at hb;subst hb;exact⟨(Q9.1 hh).1,hE⟩
 |row e k cs=>
  obtain⟨vs,ho,_⟩:=h;rcases ho.2 with⟨rfl,_⟩|⟨g,cap,cur,rfl,hb1,hh,rest⟩
  ·simp[cq]at hb
  ·simp only[cq,Qf]at hb;subst hb;exact⟨(Q9.1 hh).1,(Ew rfl hb1).imp (·.2) id⟩
section
variable {E : En} {S : St} {a : Act} {w : World} {L : Nat -> Value}
theorem Marks.oth{w':World}(h:Marks E a w)(ho:Cc w w'):Marks E a w':=⟨h.none,h.nodup,fun d hd=>by
 obtain⟨D,h1,h2,h3⟩:=h.at_ d hd
 exact⟨D,h1,h2,ho.same D _ h3 rfl⟩⟩
theorem vQ.cells{M:Nat->Prop}{G:Gh}{v:Value}{c:wQ}(h:vQ E w M G v c)(hl:c.live=true){b:Nat}(hb:cq v=some b):∃o,w.heap[b]?=some o/\ZH o=true:=by
 cases c with
 |dead=>cases hl
 |box cs=>
  obtain⟨b',cur,T,rfl,hh,hE,_⟩:=h;simp only[cq,Qf]at hb;subst hb;exact⟨_,hh,rfl⟩
 |row e k cs=>
  obtain⟨vs,ho,_⟩:=h;rcases ho.2 with⟨rfl,_⟩|⟨g,cap,cur,rfl,hb1,hh,rest⟩
  ·simp[cq]at hb
  ·simp only[cq,Qf]at hb;subst hb;exact⟨_,hh,rfl⟩
theorem Jd{a:Act}{d t:Nat}{v:Value}(h:t≠d):(a.put (some d) v).tmps.getD t undef=a.tmps.getD t undef:=by
 simp only[Act.put,QN];rw[Array.getElem?_setIfInBounds_ne (fun e=>h e.symm)]
theorem Rel.put(h:Rel E S a w L){d:Nat}{x:PV}{v:Value}(hd:E.can d)(hx:bg w (bs E S L) (S.gh L) x v):
  Rel E {S with env:=bO S.env d x} (a.put (some d) v) w L:=by
 refine⟨⟨h.defers.none,h.defers.nodup,h.defers.at_⟩,⟨by simp[Act.put,h.size.1],fun t u hu=> ?_⟩,fun t=> ?_,h.obj,h.apart,h.fresh,h.fr,h.BA⟩
 ·rw[Jd (fun e=>by subst e;rw[hd.2]at hu;cases hu)]
  exact h.size.2 t u hu
 show bg w (bs E S L) (S.gh L) (bO S.env d x t) _
 by_cases ht:t=d
 ·subst ht;have:(a.put (some t) v).tmps.getD t undef=v:=by simp[Act.put,QN,Array.getElem?_setIfInBounds_self_of_lt (show t<a.tmps.size by rw[h.size.1];exact hd.1)]
  rw[this,cr];exact hx
 ·have:(a.put (some d) v).tmps.getD t undef=a.tmps.getD t undef:=by
   simp only[Act.put,QN];rw[Array.getElem?_setIfInBounds_ne (fun e=>ht e.symm)]
  rw[this,cD _ _ ht];exact h.env t
theorem Rel.grow(h:Rel E S a w L){w':World}(hos:w'.os=w.os)(htape:w'.tape=w.tape)(hout:w'.output=w.output)(hsz:w.heap.size<=w'.heap.size)
  (hb:∀b,b<w.heap.size->w'.heap[b]?=w.heap[b]?) (hdr:w.drawn<=w'.drawn:=by first|exact QI _|(simp;done)|omega):Rel E S a w' L/\dI w w' (bs E S L) (bs E S L):=by
 have hs:dI w w' (bs E S L) (bs E S L):=⟨fun p v hp hm=>⟨(World.cell?_of_block (hb _ (T1 hp))).trans hp,hm⟩,fun k _ _ hk hm=>⟨(hb k (Q9.1 hk).1).trans hk,hm⟩⟩
 have ho:Cc w w':=⟨hsz,fun k o hk _=>(hb k (Q9.1 hk).1).trans hk⟩
 refine⟨⟨h.defers.oth ho,h.size,fun t=>(h.env t).mono hs (Gh.le.refl _),fun id hid=>(h.obj id hid).mono hs (Gh.le.refl _) (fun b _ hlt=>hb b hlt),h.apart,h.fresh,
  ⟨⟨hos.trans h.fr.os,htape.trans h.fr.tape,hout.trans h.fr.output,QK h.fr.size hsz,fun b h1 h2=>(hb b (QJ h1 h.fr.size)).trans (h.fr.block b h1 h2),QK h.fr.drawn hdr⟩,h.fr.ko.trans ho⟩,h.BA⟩,hs⟩
theorem Rel.sW(h:Rel E S a w L){w':World}{id:Nat}(hid:id<S.N)(o:fT)(l:Value)
  (hv:(o.ao=(S.H id).ao/\l=L id/\(S.H id).c.live=true)\/(S.H id).ao<o.ao)
  (hos:w'.os=w.os) (htape:w'.tape=w.tape) (hout:w'.output=w.output) (hsz:w.heap.size<=w'.heap.size)
  (hb:∀b,b<w.heap.size->((S.H id).c.live=true->cq (L id)≠some b)->w'.heap[b]?=w.heap[b]?)
  (hl:∀b,o.c.live=true->cq l=some b->((S.H id).c.live=true/\cq (L id)=some b)\/w.heap.size<=b)
  (hnew:dI w w' (bs E S L) (bs E {S with H:=bO S.H id o} (bO L id l))->(S.gh L).le (St.gh {S with H:=bO S.H id o} (bO L id l))->
   vQ E w' (bs E {S with H:=bO S.H id o} (bO L id l)) (St.gh {S with H:=bO S.H id o} (bO L id l)) l o.c)
  (hdr:w.drawn<=w'.drawn:=by first|exact QI _|(simp;done)|omega):
  Rel E {S with H:=bO S.H id o} a w' (bO L id l)/\dI w w' (bs E S L) (bs E {S with H:=bO S.H id o} (bO L id l))/\(S.gh L).le (St.gh {S with H:=bO S.H id o} (bO L id l)):=by
 have hg:(S.gh L).le (St.gh {S with H:=bO S.H id o} (bO L id l)):=by
  refine⟨QI _,fun j hj=> ?_⟩
  by_cases hji:j=id
  ·subst hji;rcases hv with⟨e1,e2,_⟩|e
   ·exact .inl ⟨by simp[St.gh,cr,e1],by simp[St.gh,cr,e2]⟩
   ·exact .inr (by simpa[St.gh,cr]using e)
  ·exact .inl ⟨by simp[St.gh,cD _ _ hji],by simp[St.gh,cD _ _ hji]⟩
 have hm:∀b,b<w.heap.size->bs E {S with H:=bO S.H id o} (bO L id l) b->bs E S L b:=by
  rintro b hlt (⟨j,hj,hlive,hblk⟩|hX)
  case inr=>exact .inr hX
  simp only at hj hlive
  by_cases hji:j=id
  ·subst hji;rw[cr]at hlive hblk;rcases hl b hlive hblk with⟨h1,h2⟩|h1
   ·exact .inl ⟨j,hj,h1,h2⟩
   ·omega
  ·rw[cD _ _ hji]at hlive hblk;exact .inl ⟨j,hj,hlive,hblk⟩
 have ho:Cc w w':=⟨hsz,fun k o hk hc=>(hb k (Q9.1 hk).1 (fun h1 h2=>by
  obtain⟨o',h3,h4⟩:=(h.obj id hid).cells h1 h2;rw[hk]at h3;injection h3 with h3
  rw[h3,h4]at hc
  cases hc)).trans hk⟩
 have hs:dI w w' (bs E S L) (bs E {S with H:=bO S.H id o} (bO L id l)):=by
  refine⟨fun p v hp hnm=> ?_,fun k _ _ hk hnm=>⟨ho.same k _ hk rfl,fun hm'=>hnm (hm _ (Q9.1 hk).1 hm')⟩⟩
  have hlt:=T1 hp;exact⟨(World.cell?_of_block (hb _ hlt (fun h1 h2=>hnm (.inl ⟨id,hid,h1,h2⟩)))).trans hp,fun hm'=>hnm (hm _ hlt hm')⟩
 refine⟨⟨h.defers.oth ho,h.size,fun t=>(h.env t).mono hs hg,fun j hj=> ?_,?_,fun j hj=> ?_,?_,?_⟩,hs,hg⟩
 ·simp only at hj ⊢
  by_cases hji:j=id
  ·subst hji;rw[cr,cr];exact hnew hs hg
  ·rw[cD _ _ hji,cD _ _ hji]
   cases hlv:(S.H j).c.live with
   |false=>
    cases hc:(S.H j).c with
    |dead=>trivial
    |box cs=>rw[hc]at hlv;cases hlv
    |row e k cs=>rw[hc]at hlv;cases hlv
   |true=>
    refine(h.obj j hj).mono hs hg (fun b hbj hlt=>hb b hlt (fun h1 h2=>hji (h.apart j id b hj hid hlv h1 hbj h2)))
 ·intro i j b hi hj hli hlj hbi hbj;simp only at hi hj hli hlj
  by_cases hii:i=id
  ·by_cases hjj:j=id
   ·rw[hii,hjj]
   ·subst hii;rw[cr]at hli hbi;rw[cD _ _ hjj]at hlj hbj;rcases hl b hli hbi with⟨h1,h2⟩|h1
    ·exact h.apart i j b hi hj h1 hlj h2 hbj
    ·have:=((h.obj j hj).xT hlj hbj).1;omega
  ·rw[cD _ _ hii]at hli hbi
   by_cases hjj:j=id
   ·subst hjj;rw[cr]at hlj hbj;rcases hl b hlj hbj with⟨h1,h2⟩|h1
    ·exact h.apart i j b hi hj hli h1 hbi h2
    ·have:=((h.obj i hi).xT hli hbi).1;omega
   ·rw[cD _ _ hjj]at hlj hbj;exact h.apart i j b hi hj hli hlj hbi hbj
 ·simp only at hj ⊢;rw[cD _ _ (by omega)]
  exact h.fresh j hj
 ·refine⟨⟨hos.trans h.fr.os,htape.trans h.fr.tape,hout.trans h.fr.output,QK h.fr.size hsz,fun b h1 h2=> ?_,QK h.fr.drawn hdr⟩,h.fr.ko.trans ho⟩
  refine(hb b (QJ h1 h.fr.size) (fun h3 h4=> ?_)).trans (h.fr.block b h1 h2)
  rcases((h.obj id hid).xT h3 h4).2 with h5|h5
  ·exact h2 h5
  ·omega
 ·intro hb0 hlv hvr;simp only at hlv hvr
  by_cases hi0:0=id
  ·subst hi0;rw[cr]at hlv hvr ⊢;rcases hv with⟨e1,e2,e3⟩|e
   ·rw[e2];exact h.BA hb0 e3 (by omega)
   ·omega
  ·rw[cD _ _ hi0]at hlv hvr ⊢;exact h.BA hb0 hlv hvr
theorem Rel.drew(h:Rel E S a w L)(n:Nat)(hn:w.drawn<=n:=by first|exact QI _|exact Nat.le_add_right _ _|exact Nat.le_succ _|assumption|omega):Rel E S a {w with drawn:=n} L:=
 (h.grow (w':={w with drawn:=n}) rfl rfl rfl (QI _) (fun _ _=>rfl) hn).1
theorem Rel.room(h:Rel E S a w L)(k:Nat):Rel E {S with N:=S.N+k} a w L:=by
 have hm:∀b,bs E {S with N:=S.N+k} L b↔bs E S L b:=by
  intro b;constructor
  ·rintro(⟨j,hj,hl,hb⟩|hX)
   case inr=>exact .inr hX
   simp only at hj hl
   by_cases hlt:j<S.N
   ·exact .inl ⟨j,hlt,hl,hb⟩
   ·rw[h.fresh j (by omega)]at hl
    cases hl
  ·rintro(⟨j,hj,hl,hb⟩|hX)
   ·exact .inl ⟨j,by simp only;omega,hl,hb⟩
   ·exact .inr hX
 have hs:dI w w (bs E S L) (bs E {S with N:=S.N+k} L):=(dI.of fun _ hn=>fun hm'=>hn ((hm _).1 hm'))
 have hg:(S.gh L).le (St.gh {S with N:=S.N+k} L):=⟨by simp[St.gh],fun _ _=> .inl ⟨rfl,rfl⟩⟩
 refine⟨h.defers,h.size,fun t=>(h.env t).mono hs hg,fun id hid=> ?_,fun i j b hi hj hli hlj hbi hbj=> ?_,fun id hid=>h.fresh id (by simp only at hid;omega),h.fr,h.BA⟩
 ·by_cases hlt:id<S.N
  ·exact(h.obj id hlt).mono hs hg (fun _ _ _=>rfl)
  ·simp only;rw[h.fresh id (by omega)]
   trivial
 ·simp only at hi hj hli hlj
  have hi':i<S.N:=by
   rcases Nat.lt_or_ge i S.N with h1|h1
   ·exact h1
   ·rw[h.fresh i h1]at hli;cases hli
  have hj':j<S.N:=by
   rcases Nat.lt_or_ge j S.N with h1|h1
   ·exact h1
   ·rw[h.fresh j h1]at hlj;cases hlj
  exact h.apart i j b hi' hj' hli hlj hbi hbj
end
end
section
open Go.RowKit
inductive bo where
 |tmp (t:Nat)
 |w5 (x:PV)
def bo.val(S:St):bo->PV
 | .tmp t=>S.env t
 | .w5 x=>x
inductive LK where
 |i
 |s
 |b
inductive bP where
 |ot (x:bo)
 |pick (c x y:bo)
 |box (x:bo)
 |Dm (x:bo)
 |alloc (z:List PV)
 |load (n:Option Nat) (p:bo)
 |store (n:Nat) (p x:bo)
 |build (z:List PV) (ps:List (Nat×Nat×bo))
 |LL (m:Bool) (e k:Nat) (z:List (List PV)) (ps:List (Nat×bo))
 |zx (off:Nat) (p:bo)
 |ru (k:Nat) (x i:bo)
 |zC (k len:Nat) (x i:bo)
 |bin (op:BinOp) (x y:bo)
 |lu (neg:Bool) (x y:bo)
 |GV (neg:Bool) (x y:bo)
 |not (x:bo)
 |conv (k:IntKind) (x:bo)
 |len (isStr:Bool) (x:bo)
 |call (f:FuncId) (xs:List bo)
 |uq (fv:bo) (xs:List bo)
 |cQ (fz:Bool) (e k bytes:Nat) (s x:bo)
 |zr (x:bo)
 |Dg (i:Nat) (x:bo)
 |IC (f:FuncId) (caps:List bo)
 |ID (f:FuncId) (first:List bo)
 |DW (neg:Bool) (ks:List LK) (x y:bo)
 |KR (e k bytes:Nat) (z:List PV) (l c:bo)
 |FY (k:Nat) (x:bo) (lo hi:Option bo)
 |te (mx:Bool) (x y:bo)
 |xJ (neg:Bool) (x:bo)
 |clear (k:Nat) (z:List PV) (x:bo)
 |xi (x i:bo)
 |Dn (e:Nat) (n:Option Nat) (len k:Nat) (x i:bo)
 |lookup (ok:Bool) (z:PV) (x y:bo)
 |IK (n:Option Nat) (off:Nat) (x:bo)
inductive RK where
 |no
 |Xt (e k:Nat)
 |Oc (e k:Nat)
 |fre (e k:Nat)
structure Model where
 recv:Bool
 pos:Nat
 fresh:Bool
 m:List PV->List PV->Option (PV×List PV)
 rk:RK
 ro:Bool
 rm:List (List PV)->List PV->Option (PV×List (List PV))
abbrev ow:=FuncId->Option Model
def cutAt{α:Type}(p:Nat)(l:List α):List α:=l.take p++l.drop (p+1)
def jg{α:Type}(p:Nat)(x l:List α):List α:=l.take p++x++l.drop p
def PV.closed:PV->Bool
 | .int ..| .bool _| .str _| .kJ| .dR| .sl _| .ref _| .iK ..=>true
 | .bG _ []=>true
 |_=>false
def PV.plain:PV->Bool
 | .int ..| .bool _| .gH| .str _| .kJ| .dR| .any| .undef=>true
 |_=>false
def PV.pd:PV->Bool
 | .agg cs=>cs.all PV.plain
 |x=>x.plain
def PV.s4:PV->Bool
 | .dO cs=>cs.all PV.pd
 |x=>x.pd
def PV.bD:PV->Bool
 | .agg cs| .dO cs| .bG _ cs=>cs.all PV.closed
 |x=>x.closed
def PV.uo:PV->Bool
 | .dO cs=>cs.all PV.bD
 |x=>x.bD
def fz(H:Nat->fT)(ex:Option Nat):Nat->PV->PV
 |0,x=>match x with| .dR=> .sl []|x=>if x.closed then x else .any
 |_+1,.dR=> .sl []
 |n+1,.own id ao=>if some id=ex\/(H id).ao≠ao then .any else
   match(H id).c with
   | .row _ _ es=> .sl (es.map fun e=>e.map (fz H ex n))
   |_=> .any
 |n+1,.ptr id ao off=>if some id=ex\/(H id).ao≠ao then .any else
   match(H id).c with
   | .box cs=> .ref ((cs.map (fz H ex n)).drop off)
   |_=> .any
 |n+1,.agg cs=> .agg (cs.map (fz H ex n))
 |n+1,.dO cs=> .dO (cs.map (fz H ex n))
 |n+1,.bG f cs=> .bG f (cs.map (fz H ex n))
 |_+1,x=>if x.closed then x else .any
def nz:PV->PV
 | .dR=> .sl []
 |x=>x
def PV.PR:PV->Bool
 | .dR=>false
 |_=>true
def BG(es:List (List PV)):List (List PV):=es.map fun e=>e.map nz
def zK(es:List (List PV)):Bool:=es.all fun u=>u.all PV.closed
def Gk(es:List (List PV)):Bool:=es.all fun u=>u.all PV.plain
def yZ(m:Model)(e k:Nat)(S:St)(args:List PV):Option (PV×Option (Nat×fT)):=
 match args with
 | .own id ao::rest=>
  if(S.H id).ao=ao then
   match(S.H id).c with
   | .row e' k' es=>
    if e'=e/\k'=k/\zK es=true then
     match m.rm es (rest.map (fz S.H (some id) 9))with
     |some (r,es')=>if(r.s4||rest.all PV.bD&&r.uo)&&zK es'&&(Gk es'||rest.all PV.bD)then some (r,some (id,⟨ao,.row e k es'⟩))else none
     |none=>none
    else none
   |_=>none
  else none
 |_=>none
def yY(m:Model)(e k:Nat)(S:St)(args:List PV):Option (PV×Option (Nat×fT)):=
 match args with
 | .own id ao::rest=>
  if(S.H id).ao=ao then
   match(S.H id).c with
   | .row e' k' es=>
    if e'=e/\k'=k/\zK es=true then
     match m.rm es (rest.map (fz S.H (some id) 9))with
     |some (_,es')=>if zK es'&&(Gk es'||rest.all PV.bD)then some (.own id (ao+1),some (id,⟨ao+1,.row e k es'⟩))else none
     |none=>none
    else none
   |_=>none
  else none
 |_=>none
def D0(m:Model)(e k:Nat)(nid:Nat)(S:St)(args:List PV):Option (PV×Option (Nat×fT)):=
 match m.rm [] (args.map (fz S.H none 9))with
 |some (_,es')=>if zK es'&&(Gk es'||args.all PV.bD)then some (.own nid ((S.H nid).ao+1),some (nid,⟨(S.H nid).ao+1,.row e k es'⟩))else none
 |none=>none
def mw(Γ:ow)(nid:Nat)(S:St)(f:FuncId)(args:List PV):Option (PV×Option (Nat×fT)):=
 match Γ f with
 |none=>none
 |some m=>
  match m.rk with
  | .Xt e k=>yZ m e k S args
  | .Oc e k=>yY m e k S args
  | .fre e k=>D0 m e k nid S args
  | .no=>
  if m.fresh then
   match m.m [] (args.map (fz S.H none 9))with
   |some (_,cs)=>if cs.all PV.closed&&(cs.all PV.plain||args.all PV.bD)then some (.ptr nid ((S.H nid).ao+1) 0,some (nid,⟨(S.H nid).ao+1,.box cs⟩))else none
   |none=>none
  else if m.recv then
   match args[m.pos]? with
   |some (.ptr id ao 0)=>
    if(S.H id).ao=ao then
     match(S.H id).c with
     | .box cs=>
      if cs.all PV.closed then
       match m.m (cs.map nz) ((cutAt m.pos args).map (fz S.H (some id) 9))with
       |some (r,cs')=>if(r.s4||(cutAt m.pos args).all PV.bD)&&r.uo&&cs'.all PV.closed&&(cs'.all PV.plain||(cutAt m.pos args).all PV.bD)then some (r,if m.ro&&cs.all PV.PR then none else some (id,⟨ao,.box cs'⟩))else none
       |none=>none
      else none
     |_=>none
    else none
   |_=>none
  else
   match m.m [] (args.map (fz S.H none 9))with
   |some (r,_)=>if r.s4||args.all PV.bD&&r.uo then some (r,none)else none
   |none=>none
def G8(op:BinOp)(k:IntKind)(a b:Int):Option PV:=
 match op with
 | .add=>some (.int k (k.wrap (a+b)))
 | .sub=>some (.int k (k.wrap (a - b)))
 | .mul=>some (.int k (k.wrap (a*b)))
 | .quo=>if b=0 then none else some (.int k (k.wrap (a.tdiv b)))
 | .rem=>if b=0 then none else some (.int k (a.tmod b))
 | .and=>some (.int k (k.wrap ((BitVec.ofInt k.bits a&&&BitVec.ofInt k.bits b).toNat)))
 | .or=>some (.int k (k.wrap ((BitVec.ofInt k.bits a|||BitVec.ofInt k.bits b).toNat)))
 | .xor=>some (.int k (k.wrap ((BitVec.ofInt k.bits a^^^BitVec.ofInt k.bits b).toNat)))
 | .andNot=>some (.int k (k.wrap ((BitVec.ofInt k.bits a&&& ~~~ BitVec.ofInt k.bits b).toNat)))
 | .eql=>some (.bool (decide (a=b)))
 | .neq=>some (.bool (!decide (a=b)))
 | .lss=>some (.bool (decide (a<b)))
 | .leq=>some (.bool (decide (a<=b)))
 | .gtr=>some (.bool (decide (b<a)))
 | .geq=>some (.bool (decide (b<=a)))
 |_=>none
def jR(a b:ByteArray):Bool:=Op.bytesLess a.toList b.toList
def LO(op:BinOp)(a b:ByteArray):Option PV:=
 match op with
 | .eql=>some (.bool (decide (a=b)))
 | .neq=>some (.bool (!decide (a=b)))
 | .lss=>some (.bool (jR a b))
 | .leq=>some (.bool (jR a b||decide (a=b)))
 | .gtr=>some (.bool (!(jR a b||decide (a=b))))
 | .geq=>some (.bool (!jR a b))
 |_=>none
def HP(op:BinOp)(x y:PV):Option PV:=
 match x,y with
 | .int k a,.int k' b=>
  match op with
  | .shl=>if b<0 then none else some (.int k (k.wrap (a*2 ^ (min b.toNat k.bits))))
  | .shr=>if b<0 then none else some (.int k (a.fdiv (2 ^ (min b.toNat k.bits))))
  |_=>if k=k' then G8 op k a b else none
 | .str a,.str b=>LO op a b
 |_,_=>none
def sN:Option Nat->List PV->Option PV
 |none,x::_=>some x
 |none,[]=>none
 |some n,cs=>if n<=cs.length then some (.agg (cs.take n))else none
def iE(cs:List PV)(off:Nat)(xs:List PV):List PV:=cs.take off++xs++cs.drop (off+xs.length)
def kG(S:St):PV->Option (List (List PV))
 | .dR=>some []
 | .sl es=>some es
 | .own id ao=>if(S.H id).ao=ao then(match(S.H id).c with| .row _ _ es=>some es|_=>none)else none
 | .view id ao k lo n=>if(S.H id).ao=ao then(match(S.H id).c with| .row _ k' es=>if k'=k then some ((es.drop lo).take n)else none|_=>none)else none
 |_=>none
def sy(S:St)(y:Option bo)(d:Int):Option Int:=
 match y with
 |none=>some d
 |some l=>match l.val S with| .int _ n=>some n|_=>none
def qC(S:St):List PV->List (Nat×Nat×bo)->Option (List PV)
 |cs,[]=>some cs
 |cs,(off,n,x)::rest=>
  if(x.val S).cells.length=n/\off+n<=cs.length/\(x.val S).cells.all PV.one=true then qC S (iE cs off (x.val S).cells) rest else none
def tB(S:St)(k:Nat):List (List PV)->List (Nat×bo)->Option (List (List PV))
 |es,[]=>some es
 |es,(i,x)::rest=>
  if(x.val S).cells.length=k/\i<es.length/\(x.val S).cells.all PV.one=true then tB S k (es.set i (x.val S).cells) rest else none
def xi(s:ByteArray)(n:Int):Option Int:=if 0<=n then(s[n.toNat]?).map fun b=>(b.toNat:Int)else none
def CH(k:IntKind)(a:Int)(l:IntKind)(b:Int):List PV->List PV->Option (Option PV)
 |[],[]=>some none
 | .agg [.int k' a',.int l' b']::ks,v::vs=>if k=k'/\l=l' then(if a=a'/\b=b' then some (some v)else CH k a l b ks vs)else none
 |_,_=>none
def lS:List LK->List PV->List PV->Option Bool
 |[],[],[]=>some true
 | .i::ks,.int k a::cs,.int l b::ds=>if k=l then(lS ks cs ds).map fun r=>decide (a=b)&&r else none
 | .s::ks,.str a::cs,.str b::ds=>(lS ks cs ds).map fun r=>decide (a=b)&&r
 | .b::ks,.bool a::cs,.bool b::ds=>(lS ks cs ds).map fun r=>decide (a=b)&&r
 |_,_,_=>none
def G9(z:Bool)(id ao e k:Nat)(es:List (List PV)):Option (PV×Option (Nat×fT)):=
 match z with
 |false=>some (.own id ao,some (id,⟨ao,.row e k es⟩))
 |true=>if es.all (fun u=>u.all PV.closed)then some (.sl es,some (id,⟨ao,.dead⟩))else none
def exec(Γ:ow)(nid:Nat)(S:St):bP->Option (PV×Option (Nat×fT))
 | .ot x=>some (x.val S,none)
 | .pick c x y=>match c.val S with
  | .bool true=>some (x.val S,none)
  | .bool false=>some (y.val S,none)
  |_=>none
 | .box x=>if(x.val S).cells.all PV.one then some (.ptr nid ((S.H nid).ao+1) 0,some (nid,⟨(S.H nid).ao+1,.box (x.val S).cells⟩))else none
 | .Dm x=>if(x.val S).cells.all PV.one&&(x.val S).cells.all PV.closed then some (.ref (x.val S).cells,none)else none
 | .alloc z=>some (.ptr nid ((S.H nid).ao+1) 0,some (nid,⟨(S.H nid).ao+1,.box z⟩))
 | .load n p=>match p.val S with
  | .ptr id ao off=>if(S.H id).ao=ao then(match(S.H id).c with| .box cs=>(sN n (cs.drop off)).map (·,none)|_=>none)else none
  | .eQ id ao k i off=>if(S.H id).ao=ao then(match(S.H id).c with| .row _ k' es=>if k=k' then(match es[i]? with|some e=>(sN n (e.drop off)).map (·,none)|none=>none)else none|_=>none)else none
  | .ref cs=>(sN n cs).map (·,none)
  |_=>none
 | .store n p x=>if(x.val S).cells.length=n/\(x.val S).cells.all PV.one=true then
   match p.val S with
   | .ptr id ao off=>if(S.H id).ao=ao then(match(S.H id).c with| .box cs=>if off+n<=cs.length then some (.undef,some (id,⟨ao,.box (iE cs off (x.val S).cells)⟩))else none|_=>none)else none
   | .eQ id ao k i off=>if(S.H id).ao=ao then(match(S.H id).c with| .row e k' es=>if k=k' then(match es[i]? with|some c=>if off+n<=c.length then some (.undef,some (id,⟨ao,.row e k (es.set i (iE c off ((x.val S).cells.map nz)))⟩))else none|none=>none)else none|_=>none)else none
   |_=>none
  else none
 | .build z ps=>(qC S z ps).map fun cs=>(.agg cs,none)
 | .LL m e k z ps=>match tB S k z ps with
  |some es=>if m=false/\es.all (fun u=>u.all PV.closed)=true then some (.sl (BG es),none)else some (.own nid ((S.H nid).ao+1),some (nid,⟨(S.H nid).ao+1,.row e k (BG es)⟩))
  |none=>none
 | .zx off p=>match p.val S with
  | .ptr id ao o=>if(S.H id).ao=ao then(match(S.H id).c with| .box _=>some (.ptr id ao (o+off),none)|_=>none)else none
  | .eQ id ao k i o=>if(S.H id).ao=ao then(match(S.H id).c with| .row _ _ es=>if i<es.length then some (.eQ id ao k i (o+off),none)else none|_=>none)else none
  | .ref cs=>some (.ref (cs.drop off),none)
  |_=>none
 | .ru k x i=>match i.val S with
  | .int _ n=>match x.val S with
   | .sl es=>if 0<=n/\n<es.length then(match es[n.toNat]? with|some e=>if e.length=k then some (.ref e,none)else none|none=>none)else none
   | .own id ao=>if(S.H id).ao=ao then(match(S.H id).c with| .row _ k' es=>if k=k'/\0<=n/\n<es.length then some (.eQ id ao k n.toNat 0,none)else none|_=>none)else none
   | .view id ao k0 lo m=>if(S.H id).ao=ao then(match(S.H id).c with| .row _ k' es=>if k=k'/\k0=k/\0<=n/\n<m/\lo+n.toNat<es.length then some (.eQ id ao k (lo+n.toNat) 0,none)else none|_=>none)else none
   |_=>none
  |_=>none
 | .zC k len x i=>match i.val S with
  | .int _ n=>if 0<=n/\n<len then(match x.val S with
   | .ptr id ao o=>if(S.H id).ao=ao then(match(S.H id).c with| .box _=>some (.ptr id ao (o+n.toNat*k),none)|_=>none)else none
   | .ref cs=>some (.ref (cs.drop (n.toNat*k)),none)
   |_=>none)else none
  |_=>none
 | .bin op x y=>(HP op (x.val S) (y.val S)).map (·,none)
 | .lu neg x y=>match x.val S,y.val S with
  | .agg [.int k a,.str s],.agg [.int k' b,.str t]=>if k=k' then some (.bool (xor neg (decide (a=b)&&decide (s=t))),none)else none
  |_,_=>none
 | .DW neg ks x y=>match x.val S,y.val S with
  | .agg cs,.agg ds=>(lS ks cs ds).map fun b=>(.bool (xor neg b),none)
  |_,_=>none
 | .GV neg x y=>match x.val S,y.val S with
  | .bool a,.bool b=>some (.bool (xor neg (decide (a=b))),none)
  |_,_=>none
 | .not x=>match x.val S with
  | .bool b=>some (.bool !b,none)
  |_=>none
 | .conv k x=>match x.val S with
  | .int _ n=>some (.int k (k.wrap n),none)
  |_=>none
 | .len true x=>match x.val S with
  | .str s=>some (.int .i64 s.size,none)
  |_=>none
 | .len false x=>(kG S (x.val S)).map fun es=>(.int .i64 es.length,none)
 | .call f xs=>mw Γ nid S f (xs.map (·.val S))
 | .uq fv xs=>match fv.val S with
  | .bG f caps=>mw Γ nid S f (xs.map (·.val S)++caps)
  | .jk f first=>mw Γ nid S f (first++xs.map (·.val S))
  |_=>none
 | .cQ z e k bytes s x=>match kG S (x.val S)with
  |some news=>if news.all (fun u=>u.length==k&&u.all PV.one)then(match s.val S with
   | .dR=>if news.length*bytes<=140737488355328/\news.length<=maxLen then G9 z nid ((S.H nid).ao+1) e k news else none
   | .own id ao=>if(S.H id).ao=ao then(match(S.H id).c with
    | .row e' k' es=>if e=e'/\k=k'/\(es.length+news.length)*bytes<=140737488355328/\es.length+news.length<=maxLen then G9 z id (ao+1) e k (es++news)else none
    |_=>none)else none
   |_=>none)else none
  |none=>none
 | .zr x=>match x.val S with
  | .ptr id ao off=>if(S.H id).ao=ao then(match(S.H id).c with| .box _=>some (.ptr id ao off,none)|_=>none)else none
  | .ref cs=>some (.ref cs,none)
  | .bG f cs=>some (.bG f cs,none)
  |_=>none
 | .Dg i x=>match x.val S with
  | .dO cs=>(cs[i]?).map (·,none)
  |_=>none
 | .IC f caps=>some (.bG f (caps.map (·.val S)),none)
 | .ID f first=>some (.jk f (first.map (·.val S)),none)
 | .KR e k bytes z l c=>match l.val S,c.val S with
  | .int _ n,.int _ m=>if n=m/\0<=n/\n.toNat*bytes<=140737488355328/\n.toNat<=maxLen then some (.own nid ((S.H nid).ao+1),some (nid,⟨(S.H nid).ao+1,.row e k (List.replicate n.toNat (z.map nz))⟩))else none
  |_,_=>none
 | .FY k x lo hi=>match x.val S with
  | .sl es=>if es.all (fun e=>e.length==k)then
   match(match lo with|none=>some (0:Int)|some l=>(match l.val S with| .int _ n=>some n|_=>none)),(match hi with|none=>some (es.length:Int)|some h=>(match h.val S with| .int _ n=>some n|_=>none))with
   |some l,some h=>if 0<=l/\l<=h/\h<=es.length then some (.sl ((es.take h.toNat).drop l.toNat),none)else none
   |_,_=>none
   else none
  | .own id ao=>if(S.H id).ao=ao then(match(S.H id).c with
   | .row _ k' es=>if k=k' then
    match sy S lo 0,sy S hi es.length with
    |some l,some h=>if 0<=l/\l<=h/\h<=es.length then some (.view id ao k l.toNat (h.toNat - l.toNat),none)else none
    |_,_=>none
    else none
   |_=>none)else none
  | .view id ao k0 lo0 n0=>if(S.H id).ao=ao then(match(S.H id).c with
   | .row _ k' _=>if k=k'/\k0=k then
    match sy S lo 0,sy S hi n0 with
    |some l,some h=>if 0<=l/\l<=h/\h<=n0 then some (.view id ao k (lo0+l.toNat) (h.toNat - l.toNat),none)else none
    |_,_=>none
    else none
   |_=>none)else none
  |_=>none
 | .te mx x y=>match x.val S,y.val S with
  | .int k a,.int k' b=>if k=k' then some (.int k (if mx then(if b>a then b else a)else(if b<a then b else a)),none)else none
  |_,_=>none
 | .xJ neg x=>match x.val S with
  | .dR=>some (.bool !neg,none)
  |y=>match kG S y with
   |some []=>some (.gH,none)
   |some (_::_)=>some (.bool neg,none)
   |none=>none
 | .xi x i=>match x.val S,i.val S with
  | .str s,.int _ n=>(xi s n).map fun b=>(.int .u8 b,none)
  |_,_=>none
 | .Dn _ n len k x i=>match x.val S,i.val S with
  | .agg cs,.int _ j=>if 0<=j/\j<len then(sN n ((cs.drop (j.toNat*k)).map nz)).map (·,none)else none
  |_,_=>none
 | .lookup ok z x y=>match x.val S,y.val S with
  | .iK ks vs,.agg [.int k a,.int l b]=>(CH k a l b ks vs).map fun r=>(if ok then .dO [r.getD (nz z),.bool r.isSome]else r.getD (nz z),none)
  |_,_=>none
 | .IK n off x=>match x.val S with
  | .agg cs=>(sN n (cs.drop off)).map (·,none)
  |_=>none
 | .clear k z x=>match x.val S with
  | .view id ao k0 lo n=>if(S.H id).ao=ao then(match(S.H id).c with
   | .row e k' es=>if k=k'/\k0=k/\z.length=k/\z.all PV.one=true then some (.dO [],some (id,⟨ao,.row e k (es.take lo++List.replicate n (z.map nz)++es.drop (lo+n))⟩))else none
   |_=>none)else none
  |_=>none
structure SG where
 d:Option Nat
 g:Option (Nat×Bool)
 op:bP
def St.cQ(S:St)(d:Option Nat)(x:PV)(wr:Option (Nat×fT)):St:=
 {env:=match d with|some d=>bO S.env d x|none=>S.env,H:=match wr with|some (id,o)=>bO S.H id o|none=>S.H,N:=S.N}
def SG.wanted(S:St)(o:SG):Option Bool:=
 match o.g with
 |none=>some true
 |some (t,want)=>match S.env t with
  | .bool b=>some (b==want)
  | .undef=>some false
  |_=>none
def u9(Γ:ow)(nid:Nat)(S:St)(o:SG):Option St:=
 match o.wanted S with
 |some true=>(exec Γ nid S o.op).map fun p=>S.cQ o.d p.1 p.2
 |some false=>some (S.cQ o.d .undef none)
 |none=>none
def Ak(Γ:ow):Nat->List SG->St->Option St
 |_,[],S=>some S
 |nid,o::rest,S=>match u9 Γ nid S o with
  |some S'=>Ak Γ (nid+1) rest S'
  |none=>none
def yW:Value->Option PV
 | .bool b=>some (.bool b)
 | .int k n=>some (.int k n)
 | .string s=>some (.str s)
 | .pointer none=>some .kJ
 | .slice none 0 0=>some .dR
 | .nilFunc=>some .any
 |_=>none
def bA:Operand->Option bo
 | .tmp t=>some (.tmp t)
 | .const v=>(yW v).map .w5
 | .func f=>some (.w5 (.bG f []))
 | .global _=>none
def sC(P:Program)(t:TypeId):Option (Option Nat):=
 match P.underlying t with
 |some (.struct _)|some (.array _ _)=>(P.info? t).map fun i=>some i.size
 |some _=>some none
 |none=>none
def tQ(P:Program)(t:TypeId):Option (List PV):=
 match P.info? t with
 |some i=>match i.zero with
  |some z=>if z.cells.size=i.size then z.cells.toList.mapM yW else none
  |none=>none
 |none=>none
def vr(place:Nat->Option (Nat×Nat))(parts:List (Nat×Operand)):Option (List (Nat×Nat×bo)):=
 parts.mapM fun p=>do
  let q <-place p.1
  let y <-bA p.2
  some (q.1,q.2,y)
def MY(P:Program)(sh:TypeId->Option (List LK)):List Field->Nat->Option (List LK)
 |[],_=>some []
 |f::fs,off=>
  if f.name≠ "_"/\f.offset=off then
   match sh f.type,P.info? f.type with
   |some ks,some i=>if i.size=ks.length then(MY P sh fs (off+ks.length)).map (ks++·)else none
   |_,_=>none
  else none
def yU(P:Program):Nat->TypeId->Option (List LK)
 |0,_=>none
 |d+1,t=>match P.underlying t with
  |some (.int _)=>some [.i]
  |some .string=>some [.s]
  |some .bool=>some [.b]
  |some (.struct fs)=>if P.stoodInHeld t=false then MY P (yU P d) fs.toList 0 else none
  |_=>none
def Zm(hs:List Nat)(o:Oper):Bool:=match o.dst with|some t=>hs.contains t|none=>false
def IQ(P:Program)(hs:List Nat)(o:Oper):Option bP:=
 match o.op with
 | .move x| .assign x=>do some (.ot (<-bA x))
 | .pick c a b=>do some (.pick (<-bA c) (<-bA a) (<-bA b))
 | .box _ x=>do
  let y <-bA x
  some (match o.dst with|some t=>(match hs.contains t with|true=> .Dm y|false=> .box y)|none=> .box y)
 | .alloc t=>do some (.alloc (<-tQ P t))
 | .load t p=>do some (.load (<-sC P t) (<-bA p))
 | .store t p x=>do some (.store (<-P.info? t).size (<-bA p) (<-bA x))
 | .build t parts=>
  match P.underlying t with
  |some (.struct fields)=>do
   let z <-tQ P t
   let places <-fields.toList.mapM (fun f=>(P.info? f.type).map fun i=>(f.offset,i.size))
   some (.build z (<-vr (fun i=>places[i]?) parts.toList))
  |some (.array _ e)=>do
   let z <-tQ P t
   let i <-P.info? e
   some (.build z (<-vr (fun j=>some (j*i.size,i.size)) parts.toList))
  |_=>none
 | .buildSlice t len parts=>
  match P.underlying t with
  |some (.slice e)=>do
   let i <-P.info? e
   let z <-tQ P e
   let ps <-parts.toList.mapM fun p=>(bA p.2).map fun y=>(p.1,y)
   if len*i.size<=16777216/\0<i.size/\len<=maxLen then some (.LL (match o.dst with|some t=>hs.contains t|none=>true) e i.size (List.replicate len z) ps)else none
  |_=>none
 | .fieldAddr s x f=>
  match P.underlying s with
  |some (.struct fields)=>do
   let fd <-fields[f]?
   let i <-P.info? fd.type
   if i.size=0 then none else some (.zx fd.offset (<-bA x))
  |_=>none
 | .indexAddr t x i=>
  match P.underlying t with
  |some (.slice e)=>do some (.ru (<-P.info? e).size (<-bA x) (<-bA i))
  |some (.array n e)=>do some (.zC (<-P.info? e).size n (<-bA x) (<-bA i))
  |_=>none
 | .binOp op t x y _=>
  match P.underlying t with
  |some (.struct fs)=>
   match fs.toList with
   |[f,g]=>
    match P.underlying f.type,P.underlying g.type with
    |some (.int _),some .string=>
     if f.offset=0/\g.offset=1/\f.name≠ "_"/\g.name≠ "_"/\P.stoodInHeld t=false/\P.eqGuardType P.depth t=false then
      match op with
      | .eql=>do some (.lu false (<-bA x) (<-bA y))
      | .neq=>do some (.lu true (<-bA x) (<-bA y))
      |_=>none
     else none
    |_,_=>
     match yU P 64 t with
     |some ks=>
      if P.eqGuardType P.depth t=false then
       match op with
       | .eql=>do some (.DW false ks (<-bA x) (<-bA y))
       | .neq=>do some (.DW true ks (<-bA x) (<-bA y))
       |_=>none
      else none
     |none=>none
   |_=>
    match yU P 64 t with
    |some ks=>
     if P.eqGuardType P.depth t=false then
      match op with
      | .eql=>do some (.DW false ks (<-bA x) (<-bA y))
      | .neq=>do some (.DW true ks (<-bA x) (<-bA y))
      |_=>none
     else none
    |none=>none
  |some (.slice _)=>
   match y with
   | .const (.slice none 0 0)=>
    match op with
    | .eql=>do some (.xJ false (<-bA x))
    | .neq=>do some (.xJ true (<-bA x))
    |_=>none
   |_=>none
  |some .bool=>
   match op with
   | .eql=>do some (.GV false (<-bA x) (<-bA y))
   | .neq=>do some (.GV true (<-bA x) (<-bA y))
   |_=>none
  |_=>do some (.bin op (<-bA x) (<-bA y))
 | .unOp .not _ x=>do some (.not (<-bA x))
 | .convert src dst x=>
  match P.underlying src,P.underlying dst with
  |some (.int _),some (.int k)=>do some (.conv k (<-bA x))
  |_,_=>none
 | .index t x i=>
  match P.underlying t with
  |some .string=>do some (.xi (<-bA x) (<-bA i))
  |some (.array len e)=>do some (.Dn e (<-sC P e) len (<-P.info? e).size (<-bA x) (<-bA i))
  |_=>none
 | .lookup t m x ok=>
  match P.underlying t with
  |some (.map kt vt)=>
   match P.underlying kt with
   |some (.struct fs)=>
    match fs.toList with
    |[f,g]=>
     match P.underlying f.type,P.underlying g.type with
     |some (.int _),some (.int _)=>
      if f.offset=0/\g.offset=1/\f.name≠ "_"/\g.name≠ "_"/\P.stoodInHeld kt=false then do
       let i <-P.info? vt
       let z0 <-i.zero
       let z <-yW z0
       some (.lookup ok z (<-bA m) (<-bA x))
      else none
     |_,_=>none
    |_=>none
   |_=>none
  |_=>none
 | .nilCheck x=>do some (.zr (<-bA x))
 | .extract x i=>do some (.Dg i (<-bA x))
 | .makeFunc (.func f) first caps=>if first.size=0 then do some (.IC f (<-caps.toList.mapM bA))else if caps.size=0 then do some (.ID f (<-first.toList.mapM bA))else none
 | .makeSlice t l c=>
  match P.underlying t with
  |some (.slice e)=>do
   let i <-P.info? e
   if 0<i.size then some (.KR e i.size i.bytes (<-tQ P e) (<-bA l) (<-bA c))else none
  |_=>none
 | .slice t x lo hi none=>
  match P.underlying t with
  |some (.slice e)=>do
   let i <-P.info? e
   some (.FY i.size (<-bA x) (<-lo.mapM bA) (<-hi.mapM bA))
  |_=>none
 | .call {callee:= .value f,args,..}=>do
  let xs <-args.toList.mapM bA
  match f with
  | .func f=>some (.call f xs)
  |_=>some (.uq (<-bA f) xs)
 | .call {callee:= .builtin b,args,argTypes}=>
  match b,args.toList,argTypes.toList with
  | .len,[x],[t]=>
   match P.underlying t with
   |some .string=>do some (.len true (<-bA x))
   |some (.slice _)=>do some (.len false (<-bA x))
   |_=>none
  | .append,[s,x],[t,t']=>
   match P.underlying t with
   |some (.slice e)=>do
    let i <-P.info? e
    let z <-i.zero
    if t=t'/\z.cells.size=i.size/\0<i.size then some (.cQ (Zm hs o) e i.size i.bytes (<-bA s) (<-bA x))else none
   |_=>none
  | .clear,[x],[t]=>
   match P.underlying t with
   |some (.slice e)=>do
    let i <-P.info? e
    some (.clear i.size (<-tQ P e) (<-bA x))
   |_=>none
  | .min,[x,y],_=>do some (.te false (<-bA x) (<-bA y))
  | .max,[x,y],_=>do some (.te true (<-bA x) (<-bA y))
  |_,_,_=>none
 | .field t x i=>
  match P.underlying t with
  |some (.struct fs)=>
   match fs[i]? with
   |some f=>do some (.IK (<-sC P f.type) f.offset (<-bA x))
   |none=>none
  |_=>none
 |_=>none
end
section
open Go.RowKit
def Mc(recv:Bool)(rb:Nat)(X:Nat->Prop)(b:Nat):Prop:=(recv=true/\b=rb)\/X b
def Enters(P:Program)(f:FuncId):Prop:=∃fn,P.funcs[f]?=some fn/\fn.body.isSome=true/\(fn.name== "runtime.NumGoroutine")=false
def sM(recv:Bool)(rb:Nat):List Value:=if recv then[.pointer (some ⟨rb,0,none⟩)]else[]
def Uc(recv:Bool)(rb:Nat)(X:Nat->Prop)(w:World)(r:PV)(cs':List PV)(e:Ending)(w':World):Prop:=
 ∃(v:Value) (rvs':List Value),e= .returned v/\bg w' (Mc recv rb X) dj r v/\(recv=true->(∃T,w'.heap[rb]?=some (.cells rvs'.toArray T (0,0)))/\bf w' (Mc recv rb X) dj cs' rvs')/\
  Fr (if recv then some rb else none) w w'
def HW(P:Program)(f:FuncId)(pos:Nat)(recv:Bool)(cs args:List PV)(r:PV)(cs':List PV):Prop:=
 ∀(w:World) (X:Nat->Prop) (_:∀b,X b->b<w.heap.size) (rb:Nat) (T:TypeId) (rvs vs:List Value),
  (recv=true->w.heap[rb]?=some (.cells rvs.toArray T (0,0))/\bf w (Mc recv rb X) dj cs rvs)->bf w (Mc recv rb X) dj args vs->
  Calls P f (jg pos (sM recv rb) vs).toArray w (Uc recv rb X w r cs')
abbrev Con(P:Program)(f:FuncId):=HW P f 0
theorem NW{α:Type}(p:Nat)(l:List α):jg p [] l=l:=by simp[jg]
def VJ(P:Program)(f:FuncId)(args cs:List PV):Prop:=
 ∀(w:World) (X:Nat->Prop) (_:∀b,X b->b<w.heap.size) (vs:List Value),bf w X dj args vs->
  Calls P f vs.toArray w fun e w'=>∃(b:Nat) (rvs:List Value) (T:TypeId),e= .returned (.pointer (some ⟨b,0,none⟩))/\w.heap.size<=b/\w'.heap[b]?=some (.cells rvs.toArray T (0,0))/\bf w' (fun q=>X q\/q=b) dj cs rvs/\Fr none w w'
def xV(w:World)(M:Nat->Prop)(e k:Nat)(v:Value)(es:List (List PV)):Prop:=
 ∃(vs:List Value),w.ownsRow 0 e k v es.length vs/\(∀x∈es,x.length=k)/\bf w M dj es.flatten vs
def Mv(v:Value)(X:Nat->Prop)(b:Nat):Prop:=cq v=some b\/X b
def VI(P:Program)(f:FuncId)(e k:Nat)(es:List (List PV))(args:List PV)(r:PV)(es':List (List PV)):Prop:=
 ∀(w:World) (X:Nat->Prop) (_:∀b,X b->b<w.heap.size) (v:Value) (vs:List Value),(∀b,cq v=some b->¬X b)->xV w (Mv v X) e k v es->bf w (Mv v X) dj args vs->
  Calls P f (v::vs).toArray w fun en w'=>∃u,en= .returned u/\bg w' (Mv v X) dj r u/\xV w' (Mv v X) e k v es'/\Fr (cq v) w w'
def J2(P:Program)(f:FuncId)(e k:Nat)(es:List (List PV))(args:List PV)(es':List (List PV)):Prop:=
 ∀(w:World) (X:Nat->Prop) (_:∀b,X b->b<w.heap.size) (v:Value) (vs:List Value),(∀b,cq v=some b->¬X b)->xV w (Mv v X) e k v es->bf w (Mv v X) dj args vs->
  Calls P f (v::vs).toArray w fun en w'=>∃u,en= .returned u/\xV w' (Mv u X) e k u es'/\(∀b,cq u=some b->cq v=some b\/w.heap.size<=b)/\Fr (cq v) w w'
def Si(P:Program)(f:FuncId)(args:List PV)(e k:Nat)(es':List (List PV)):Prop:=
 ∀(w:World) (X:Nat->Prop) (_:∀b,X b->b<w.heap.size) (vs:List Value),bf w X dj args vs->
  Calls P f vs.toArray w fun en w'=>∃u,en= .returned u/\xV w' (Mv u X) e k u es'/\(∀b,cq u=some b->w.heap.size<=b)/\Fr none w w'
def Fq(P:Program)(f:FuncId)(m:Model):Prop:=
 match m.rk with
 | .no=>True
 | .Xt e k=>∀es args r es',m.rm es args=some (r,es')->VI P f e k es args r es'
 | .Oc e k=>∀es args r es',m.rm es args=some (r,es')->J2 P f e k es args es'
 | .fre e k=>∀args r es',m.rm [] args=some (r,es')->Si P f args e k es'
def XG(P:Program)(f:FuncId)(m:Model):Prop:=
 Enters P f/\(m.fresh=false->∀cs args r cs',m.m cs args=some (r,cs')->HW P f m.pos m.recv cs args r cs')/\(m.fresh=true->∀args r cs,m.m [] args=some (r,cs)->VJ P f args cs)/\Fq P f m/\(m.ro=true->∀cs args r cs',m.m cs args=some (r,cs')->cs'=cs)
def nQ(P:Program)(Γ:ow):Prop:=∀f m,Γ f=some m->XG P f m
section
variable {P : Program} {E : En} {S : St} {a : Act} {w : World} {L : Nat -> Value}
theorem Dl{M:Nat->Prop}{G:Gh}{v:Value}{x:PV}(h:yW v=some x):bg w M G x v:=by
 unfold yW at h;split at h<;>first|(injection h with h;subst h;first|exact .bool _|exact .int _ _|exact .str _|exact .kJ|exact .dR|exact .any _)|cases h
theorem Rel.iw(h:Rel E S a w L){x:Operand}{y:bo}(hc:bA x=some y):bg w (bs E S L) (S.gh L) (y.val S) (a.eval x):=by
 cases x with
 |tmp t=>simp only[bA,Qf]at hc;subst hc;exact h.env t
 |const v=>
  simp only[bA,Qb]at hc;obtain⟨p,hp,rfl⟩:=hc;exact Dl hp
 |global g=>simp[bA]at hc
 |func f=>
  simp only[bA,Qf]at hc;subst hc;exact .bG f [] [] rfl (fun i x v hx _=>by simp at hx)
theorem Rel.de(h:Rel E S a w L):∀{xs:List Operand} {ys:List bo},xs.mapM bA=some ys->bf w (bs E S L) (S.gh L) (ys.map (·.val S)) (xs.map a.eval)
 |[],ys,hc=>by simp at hc;subst hc;exact .nil
 |x::xs,ys,hc=>by
  simp only[Qq75,Qd,Qc,Option.pure_def,Qf]at hc;obtain⟨y,hy,zs,hzs,rfl⟩:=hc;exact .cons (h.iw hy) (h.de hzs)
section
variable {M : Nat -> Prop} {G : Gh} {v : Value}
theorem bg.nh{b:Bool}(h:bg w M G (.bool b) v):v= .bool b:=by cases h;rfl
theorem bg.fG{k:IntKind}{n:Int}(h:bg w M G (.int k n) v):v= .int k n:=by cases h;rfl
theorem bg.wU{s:ByteArray}(h:bg w M G (.str s) v):v= .string s:=by cases h;rfl
theorem bg.pT(h:bg w M G .dR v):v= .slice none 0 0:=by cases h;rfl
theorem bg.VX(h:bg w M G .undef v):v=Go.undef:=by cases h;rfl
theorem bg.Dv{cs:List PV}(h:bg w M G (.dO cs) v):∃vs:List Value,v= .tuple vs.toArray/\bf w M G cs vs:=by cases h with|dO _ vs hl h=>exact⟨vs,rfl,hl,h⟩
theorem bg.n5{cs:List PV}(h:bg w M G (.agg cs) v):∃vs:List Value,v= .agg vs.toArray/\bf w M G cs vs:=by cases h with|agg _ vs hl h=>exact⟨vs,rfl,hl,h⟩
theorem bg.M3{f:FuncId}{cs:List PV}(h:bg w M G (.jk f cs) v):∃vs:List Value,v= .func (.func f) vs.toArray #[]/\bf w M G cs vs:=by cases h with|jk _ _ vs hl h=>exact⟨vs,rfl,hl,h⟩
theorem bg.w7{f:FuncId}{cs:List PV}(h:bg w M G (.bG f cs) v):∃vs:List Value,v= .func (.func f) #[] vs.toArray/\bf w M G cs vs:=by cases h with|bG _ _ vs hl h=>exact⟨vs,rfl,hl,h⟩
theorem bg.Hu{cs:List PV}(h:bg w M G (.ref cs) v):∃(ad:Addr) (vs:List Value),v= .pointer (some ad)/\bf w M dj cs vs/\∀(i:Nat) (u:Value),vs[i]?=some u->w.cell? (ad.add i)=some u/\¬M ad.block:=by
 cases h with|ref _ ad vs hl hc h=>exact⟨ad,vs,rfl,⟨hl,h⟩,hc⟩
theorem bg.sn{id ao off:Nat}(h:bg w M G (.ptr id ao off) v)(hv:G.V id=ao):id<G.N/\v= .pointer ((cq (G.L id)).map fun b=>⟨b,off,none⟩):=by
 cases h with|ptr _ _ _ ad hN hV h=>exact⟨hN,by rw[h hv.symm]⟩
theorem bg.JI{id ao k i off:Nat}(h:bg w M G (.eQ id ao k i off) v)(hv:G.V id=ao):id<G.N/\v= .pointer ((cq (G.L id)).map fun b=>⟨b,i*k+off,none⟩):=by
 cases h with|eQ _ _ _ _ _ ad hN hV h=>exact⟨hN,by rw[h hv.symm]⟩
theorem bg.yy{id ao k lo n:Nat}(h:bg w M G (.view id ao k lo n) v)(hv:G.V id=ao):id<G.N/\∃a c,v= .slice a n c/\R7 (G.L id) k lo n a c:=by
 cases h with|view _ _ _ _ _ ad c hN hV h=>exact⟨hN,ad,c,rfl,h hv.symm⟩
theorem bg.mK{id ao:Nat}(h:bg w M G (.own id ao) v)(hv:G.V id=ao):id<G.N/\v=G.L id:=by
 cases h with|own _ _ ad n c hN hV h=>exact⟨hN,h hv.symm⟩
theorem bg.DA{es:List (List PV)}(h:bg w M G (.sl es) v):(v= .slice none 0 0/\es=[])\/∃(ad:Addr) (c k:Nat) (vs:List Value),v= .slice (some ad) es.length c/\(∀e∈es,e.length=k)/\bf w M dj es.flatten vs/\
  (∀(i:Nat) (u:Value),vs[i]?=some u->w.cell? (ad.add i)=some u/\¬M ad.block)/\es.length<=c/\c<=maxLen:=by
 cases h with
 |sl _ ad c k vs hk hl hc h hn hm=>exact .inr ⟨ad,c,k,vs,rfl,hk,⟨hl,h⟩,hc,hn,hm⟩
 |slnil=>exact .inl ⟨rfl,rfl⟩
end
def St.fu(S:St)(wr:Option (Nat×fT)):St:={S with H:=match wr with|some (id,o)=>bO S.H id o|none=>S.H}
def Good(P:Program)(E:En)(S:St)(a:Act)(w:World)(o:Oper)(x:PV)(wr:Option (Nat×fT)):Prop:=
 ∃nx w' L' v,(execOp a.eval o).run P w= .ok nx w'/\(nx= .value v\/(nx= .skip/\v=undef))/\bg w' (bs E (S.fu wr) L') ((S.fu wr).gh L') x v/\Rel E (S.fu wr) a w' L'
theorem Good.pure{o:Oper}{x:PV}{v:Value}(h:Rel E S a w L)(hr:(execOp a.eval o).run P w= .ok (.value v) w)(hx:bg w (bs E S L) (S.gh L) x v):Good P E S a w o x none:=
 ⟨_,w,L,v,hr,.inl rfl,hx,h⟩
theorem Rel.Yh(h:Rel E S a w L){d:Option Nat}{x:PV}{v:Value}(hd:∀t,d=some t->E.can t)(hx:bg w (bs E S L) (S.gh L) x v):Rel E (S.cQ d x none) (a.put d v) w L:=by
 cases d with
 |none=>exact h
 |some t=>exact h.put (hd t rfl) hx
def HU(o:Oper):Prop:=∀c,o.op≠ .defer c
theorem Good.wp{o:Oper}{x:PV}{wr:Option (Nat×fT)}(h:Good P E S a w o x wr)(hnd:HU o)(hd:∀t,o.dst=some t->E.can t){K:Act->World->Prop}{Q:Exit->Act->World->Prop}
  (hK:∀a' w' L',Rel E (S.cQ o.dst x wr) a' w' L'->K a' w'):o.wpIn (WF E.rd) 0 P a w K Q:=by
 obtain⟨nx,w',L',v,hr,hn,hx,h'⟩:=h;have:=hK _ _ _ (show Rel E (S.cQ o.dst x wr) (a.put o.dst v) w' L' from h'.Yh hd hx)
 unfold Oper.wpIn;rw[Oper.semAt_eq _ _ _ hnd,hr];rcases hn with rfl|⟨rfl,rfl⟩<;>exact⟨fun _ _=>trivial,this⟩
theorem SM{t:TypeId}{ad:Addr}{v:Value}(ht:sC P t=some none)(h:w.cell? ad=some v):(loadVar t ad).run P w= .ok v w:=by
 unfold sC at ht;split at ht
 ·simp at ht
 ·simp at ht
 ·rename_i d _ hu hd
  have:(isAgg t).run P w= .ok false w:=by
   unfold isAgg;rw[Sem.run_bind,run_underlying hd w];cases d<;>simp_all
  simp only[loadVar,Sem.run_bind,this,Result.andThen_ok];simp[load,Sem.run,h]
 ·cases ht
theorem SN{t:TypeId}{ad:Addr}{n:Nat}{vs:List Value}(ht:sC P t=some (some n))(hl:vs.length=n)(h:∀(i:Nat) (v:Value),vs[i]?=some v->w.cell? (ad.add i)=some v):
  (loadVar t ad).run P w= .ok (.agg vs.toArray) w:=by
 have hi:∃i,P.info? t=some i/\i.size=n:=by
  unfold sC at ht;split at ht
  ·simpa using ht
  ·simpa using ht
  ·simp at ht
  ·cases ht
 obtain⟨i,hi,hs⟩:=hi
 have:(isAgg t).run P w= .ok true w:=by
  unfold sC at ht;unfold isAgg;split at ht
  ·rename_i hu;rw[Sem.run_bind,run_underlying hu w];simp
  ·rename_i hu;rw[Sem.run_bind,run_underlying hu w];simp
  ·simp at ht
  ·cases ht
 have hl2:=run_loadCells_list (P:=P) w ad vs h;rw[hl]at hl2;simp only[loadVar,Sem.run_bind,this,Result.andThen_ok,sizeOf,typeInfo];simp[program,Sem.run,hi,hs,hl2]
theorem HD{M:Nat->Prop}{G:Gh}{t:TypeId}{n:Option Nat}{ad:Addr}{cs:List PV}{vs:List Value}{x:PV}(ht:sC P t=some n)(hr:bf w M G cs vs)
  (hc:∀(i:Nat) (v:Value),vs[i]?=some v->w.cell? (ad.add i)=some v) (hx:sN n cs=some x):∃v,(loadVar t ad).run P w= .ok v w/\bg w M G x v:=by
 cases n with
 |none=>
  cases cs with
  |nil=>simp[sN]at hx
  |cons y ys=>
   simp only[sN,Qf]at hx;subst hx;obtain⟨v,us,rfl,h1,_⟩:=hr.cons_inv;exact⟨v,SM ht (by simpa[Addr.add]using hc 0 v (by simp)),h1⟩
 |some n=>
  simp only[sN]at hx;split at hx
  ·injection hx with hx
   subst hx;rename_i hn;refine⟨.agg (vs.take n).toArray,SN ht (by simp[hr.1];omega) (fun i v hv=> ?_),?_⟩
   ·rw[Qq68]at hv;split at hv
    ·exact hc i v hv
    ·cases hv
   ·have:=hr.take n;exact .agg _ _ this.1 this.2
  ·cases hx
theorem Rel.rY(h:Rel E S a w L){id:Nat}{cs:List PV}(hid:id<S.N)(hc:(S.H id).c= .box cs):
  ∃(b:Nat) (cur:Array Value) (T:TypeId),L id= .pointer (some ⟨b,0,none⟩)/\w.heap[b]?=some (.cells cur T (0,0))/\bf w (bs E S L) (S.gh L) cs cur.toList/\(E.rb=some b\/E.w0.heap.size<=b):=by
 have:=h.obj id hid;rw[hc]at this;obtain⟨b,cur,T,h1,h2,h3,h4⟩:=this;exact⟨b,cur,T,h1,h2,h4,h3⟩
theorem pz{b:Nat}{cur:Array Value}{T:TypeId}(h:w.heap[b]?=some (.cells cur T (0,0))){i:Nat}{v:Value}(hv:cur.toList[i]?=some v):w.cell? ⟨b,i,none⟩=some v:=by
 simp[World.cell?,h];simpa using hv
theorem Rel.kv(h:Rel E S a w L){id:Nat}{e k:Nat}{es:List (List PV)}(hid:id<S.N)(hc:(S.H id).c= .row e k es):
  ∃(vs:List Value),w.ownsRow (gp E (L id)) e k (L id) es.length vs/\(∀x∈es,x.length=k)/\bf w (bs E S L) (S.gh L) es.flatten vs:=by
 have:=h.obj id hid;rw[hc]at this;exact this
theorem xP{α:Type}:∀(es:List (List α)) (k i:Nat) (e:List α),(∀x∈es,x.length=k)->es[i]?=some e->∀j,j<k->es.flatten[i*k+j]?=e[j]?
 |[],_,_,_,_,h,_,_=>by simp at h
 |x::xs,k,i,e,hk,h,j,hj=>by
  have hx:x.length=k:=hk x (by simp)
  cases i with
  |zero=>
   simp at h;subst h;simp only[List.flatten_cons,Nat.zero_mul,Nat.zero_add];rw[List.getElem?_append_left (by omega)]
  |succ i=>
   simp only[List.getElem?_cons_succ]at h;have:=xP xs k i e (fun y hy=>hk y (by simp[hy])) h j hj
   simp only[List.flatten_cons];have e1:(i+1)*k=i*k+k:=by rw[Qq73];omega
   rw[List.getElem?_append_right (by omega),<-this]
   congr 1;omega
theorem p6{α:Type}(es:List (List α))(k:Nat)(hk:∀x∈es,x.length=k):es.flatten.length=es.length*k:=by
 induction es with
 |nil=>simp
 |cons x xs ih=>
  have hx:x.length=k:=hk x (by simp)
  have:=ih (fun y hy=>hk y (by simp[hy]))
  simp only[List.flatten_cons,QB,QE,hx,this,Qq73];omega
end
end
section
open Go.RowKit
section
variable {P : Program} {E : En} {S : St} {a : Act} {w : World} {L : Nat -> Value} {o : Oper} {x : PV} {wr : Option (Nat × fT)} {Γ : ow} {nid : Nat}
theorem bR{p q:PV×Option (Nat×fT)}(h:some p=some q):p.1=q.1/\p.2=q.2:=by injection h with h;subst h;exact⟨rfl,rfl⟩
theorem ZK(h:Rel E S a w L){y:Operand}{y':bo}(ho:o.op= .move y\/o.op= .assign y)(hy:bA y=some y'):Good P E S a w o (y'.val S) none:=by
 refine Good.pure h ?_ (h.iw hy);rcases ho with ho|ho<;>simp[execOp,ho]
theorem acT(h:Rel E S a w L){c y z:Operand}{c' y' z':bo}(ho:o.op= .pick c y z)(hc:bA c=some c')(hy:bA y=some y')(hz:bA z=some z')
  (he:exec Γ nid S (.pick c' y' z')=some (x,wr)):Good P E S a w o x wr:=by
 have rc:=h.iw hc;simp only[exec]at he;split at he
 ·rename_i e;obtain⟨rfl,rfl⟩:=bR he;rw[e]at rc;have hv:=rc.nh;exact Good.pure (v:=a.eval y) h (by simp[execOp,ho,asBool,hv]) (h.iw hy)
 ·rename_i e;obtain⟨rfl,rfl⟩:=bR he;rw[e]at rc;have hv:=rc.nh;exact Good.pure (v:=a.eval z) h (by simp[execOp,ho,asBool,hv]) (h.iw hz)
 ·cases he
theorem ad8(h:Rel E S a w L){y:Operand}{y':bo}{t:TypeId}(ho:o.op= .unOp .not t y)(hy:bA y=some y')(he:exec Γ nid S (.not y')=some (x,wr)):Good P E S a w o x wr:=by
 have r:=h.iw hy;simp only[exec]at he;split at he
 ·rename_i b e;obtain⟨rfl,rfl⟩:=bR he;rw[e]at r;have hv:=r.nh;exact Good.pure (v:= .bool !b) h (by simp[execOp,ho,Op.unary,hv]) (.bool _)
 ·cases he
theorem acX(h:Rel E S a w L){y:Operand}{y':bo}{s t:TypeId}{k k0:IntKind}(ho:o.op= .convert s t y)(hs:P.underlying s=some (.int k0))(ht:P.underlying t=some (.int k))(hy:bA y=some y')
  (he:exec Γ nid S (.conv k y')=some (x,wr)):Good P E S a w o x wr:=by
 have r:=h.iw hy;simp only[exec]at he;split at he
 ·rename_i k1 n e;obtain⟨rfl,rfl⟩:=bR he;rw[e]at r;have hv:=r.fG;exact Good.pure (v:= .int k (k.wrap n)) h (by simp[execOp,ho,convert,run_underlying hs,run_underlying ht,Conv.intToInt,hv]) (.int _ _)
 ·cases he
theorem acW(h:Rel E S a w L){y:Operand}{y':bo}{i:Nat}(ho:o.op= .extract y i)(hy:bA y=some y')(he:exec Γ nid S (.Dg i y')=some (x,wr)):Good P E S a w o x wr:=by
 have r:=h.iw hy;simp only[exec]at he;split at he
 ·rename_i cs e;simp only[Qb]at he;obtain⟨z,hz,he⟩:=he;injection he with h1 h2
  subst h1 h2;rw[e]at r;obtain⟨vs,hv,hr⟩:=r.Dv;obtain⟨u,hu,hx⟩:=hr.get hz;exact Good.pure (v:=u) h (by simp[execOp,ho,Instr.extract,hv,hu]) hx
 ·cases he
theorem aea(h:Rel E S a w L){f:FuncId}{first caps:Array Operand}{cs:List bo}(ho:o.op= .makeFunc (.func f) first caps)(h0:first.size=0)(hc:caps.toList.mapM bA=some cs)
  (he:exec Γ nid S (.IC f cs)=some (x,wr)):Good P E S a w o x wr:=by
 simp only[exec]at he;obtain⟨rfl,rfl⟩:=bR he;have r:=h.de hc;have h1:first=#[]:=Array.eq_empty_of_size_eq_zero h0
 subst h1;refine Good.pure (v:= .func (.func f) #[] (caps.toList.map a.eval).toArray) h ?_ (.bG f _ _ r.1 r.2);have e:caps.map a.eval=(caps.toList.map a.eval).toArray:=by rw[<-Array.toList_map,Array.toArray_toList]
 simp[execOp,ho,Instr.makeFunc,e]
theorem aeb(h:Rel E S a w L){f:FuncId}{first caps:Array Operand}{cs:List bo}(ho:o.op= .makeFunc (.func f) first caps)(h0:caps.size=0)(hc:first.toList.mapM bA=some cs)
  (he:exec Γ nid S (.ID f cs)=some (x,wr)):Good P E S a w o x wr:=by
 simp only[exec]at he;obtain⟨rfl,rfl⟩:=bR he;have r:=h.de hc;have h1:caps=#[]:=Array.eq_empty_of_size_eq_zero h0;subst h1;refine Good.pure (v:= .func (.func f) (first.toList.map a.eval).toArray #[]) h ?_ (.jk f _ _ r.1 r.2)
 have e:first.map a.eval=(first.toList.map a.eval).toArray:=by rw[<-Array.toList_map,Array.toArray_toList]
 simp[execOp,ho,Instr.makeFunc,e]
theorem toList_eq_iff(a b:ByteArray):(a.toList==b.toList)=decide (a=b):=by
 have hl:∀c:ByteArray,c.toList=c.data.toList:=fun c=>Lib.toList_data c
 rw[hl,hl,QW];simp only[beq_iff_eq,Qi];constructor
 ·intro h;have:a.data=b.data:=Array.toList_inj.1 h;cases a;cases b;simp_all
 ·rintro rfl;rfl
theorem Up{M:Nat->Prop}{G:Gh}{op:BinOp}{t:TypeId}{k:IntKind}{p q:Int}{r:PV}(hb:G8 op k p q=some r)(hs1:op≠ .shl)(hs2:op≠ .shr):
  ∃v,(binOp op t (.int k p) (.int k q)).run P w= .ok v w/\bg w M G r v:=by
 cases op<;>simp only[G8]at hb
 case shl=>exact absurd rfl hs1
 case shr=>exact absurd rfl hs2
 case quo=>
  split at hb
  ·cases hb
  ·rename_i hq;injection hb with hb;subst hb;exact⟨.int k (k.wrap (p.tdiv q)),by simp[binOp,Op.intDiv,hq],.int _ _⟩
 case rem=>
  split at hb
  ·cases hb
  ·rename_i hq;injection hb with hb;subst hb;exact⟨.int k (p.tmod q),by simp[binOp,Op.intDiv,hq],.int _ _⟩
 case andNot=>injection hb with hb;subst hb;exact⟨.int k (k.wrap ((BitVec.ofInt k.bits p&&& ~~~ BitVec.ofInt k.bits q).toNat)),by simp only[binOp,ne_eq,not_true_eq_false,Qu,Op.intBits,Sem.run_pure],.int _ _⟩
 case and=>injection hb with hb;subst hb;exact⟨_,by simp only[binOp,ne_eq,not_true_eq_false,Qu,Op.intBits];rfl,.int _ _⟩
 case or=>injection hb with hb;subst hb;exact⟨_,by simp only[binOp,ne_eq,not_true_eq_false,Qu,Op.intBits];rfl,.int _ _⟩
 case xor=>injection hb with hb;subst hb;exact⟨_,by simp only[binOp,ne_eq,not_true_eq_false,Qu,Op.intBits];rfl,.int _ _⟩
 all_goals (injection hb with hb;subst hb)
 all_goals exact⟨_,by simp only[binOp,ne_eq,not_true_eq_false,Qu,Op.intArith,Op.intCmp];rfl,by first|exact .int _ _|exact .bool _⟩
theorem aef(h:Rel E S a w L){y z:Operand}{y' z':bo}{op:BinOp}{t t2:TypeId}(ho:o.op= .binOp op t y z t2)(hy:bA y=some y')(hz:bA z=some z')
  (he:exec Γ nid S (.bin op y' z')=some (x,wr)):Good P E S a w o x wr:=by
 have ry:=h.iw hy;have rz:=h.iw hz;simp only[exec,Qb]at he;obtain⟨r,hb,he⟩:=he;injection he with h1 h2
 subst h1 h2;unfold HP at hb;split at hb
 ·rename_i k p k' q e1 e2;rw[e1]at ry;rw[e2]at rz;have hv:=ry.fG;have hu:=rz.fG;have hg:∀op,(eqGuard op t y z (.int k p) (.int k' q)).run P w= .ok () w:=by intro op;cases op<;>simp[eqGuard]
  split at hb
  ·split at hb
   ·cases hb
   ·rename_i hq;injection hb with hb
    subst hb;exact Good.pure (v:=_) h (by simp[execOp,ho,hv,hu,hg,binOp,Op.shift,hq]) (.int _ _)
  ·split at hb
   ·cases hb
   ·rename_i hq;injection hb with hb
    subst hb;exact Good.pure (v:=_) h (by simp[execOp,ho,hv,hu,hg,binOp,Op.shift,hq]) (.int _ _)
  ·rename_i hs1 hs2;split at hb
   ·rename_i hk;subst hk;obtain⟨v,hrun,hx⟩:=Up (P:=P) (w:=w) (t:=t) (M:=bs E S L) (G:=S.gh L) hb hs1 hs2;exact Good.pure (v:=v) h (by simp[execOp,ho,hv,hu,hg,hrun]) hx
   ·cases hb
 ·rename_i p q e1 e2;rw[e1]at ry;rw[e2]at rz;have hv:=ry.wU;have hu:=rz.wU;have hg:∀op,(eqGuard op t y z (.string p) (.string q)).run P w= .ok () w:=by intro op;cases op<;>simp[eqGuard]
  cases op<;>simp only[LO]at hb<;>
   first
   |(injection hb with hb;subst hb;exact Good.pure (v:=_) h (by first|(simp only[execOp,ho,hv,hu,Sem.run_bind,hg,binOp,Op.stringOp,toList_eq_iff,Sem.run_pure,Result.andThen_ok];done)|(simp only[execOp,ho,hv,hu,Sem.run_bind,hg,binOp,Op.stringOp,toList_eq_iff,Sem.run_pure,Result.andThen_ok];rfl)) (.bool _))
   |cases hb
 ·cases hb
end
end
section
open Go.RowKit
section
variable {P : Program} {E : En} {S : St} {a : Act} {w : World} {L : Nat -> Value} {o : Oper} {x : PV} {wr : Option (Nat × fT)} {Γ : ow} {nid : Nat}
theorem run_load{t:TypeId}{y:Operand}{ad:Addr}{v:Value}(ho:o.op= .load t y)(hv:a.eval y= .pointer (some ad))(hr:(loadVar t ad).run P w= .ok v w):(execOp a.eval o).run P w= .ok (.value v) w:=by
 simp[execOp,ho,hv,Instr.loadAt,Instr.sureAddr,hr]
theorem add_mid(b o j:Nat):(⟨b,o,none⟩:Addr).add j=⟨b,o+j,none⟩:=Addr.add_mid b o j
theorem gQ{α:Type}{l:List α}{n i:Nat}{v:α}(h:(l.drop n)[i]?=some v):l[n+i]?=some v:=by rwa [List.getElem?_drop]at h
theorem acU(h:Rel E S a w L){y:Operand}{y':bo}{t:TypeId}{n:Option Nat}(ho:o.op= .load t y)(ht:sC P t=some n)(hy:bA y=some y')(he:exec Γ nid S (.load n y')=some (x,wr)):Good P E S a w o x wr:=by
 have r:=h.iw hy;simp only[exec]at he;split at he
 ·rename_i id ao off e;rw[e]at r;split at he
  ·rename_i hver;split at he
   ·rename_i cs hc;simp only[Qb]at he;obtain⟨z,hz,he⟩:=he;injection he with h1 h2
    subst h1 h2;obtain⟨hN,hv⟩:=r.sn (show(S.gh L).V id=ao from hver)
    obtain⟨b,cur,T,hL,hh,hr,_⟩:=h.rY hN hc;rw[show(S.gh L).L id=L id from rfl,hL]at hv
    simp only[cq,Qe]at hv;obtain⟨v,hrun,hx⟩:=HD (P:=P) (ad:=⟨b,off,none⟩) ht (hr.drop off) (fun i u hu=>by rw[add_mid];exact pz hh (gQ hu)) hz
    exact Good.pure h (run_load ho hv hrun) hx
   ·cases he
  ·cases he
 ·rename_i id ao k i off e;rw[e]at r;split at he
  ·rename_i hver;split at he
   ·rename_i e0 k' es hc;split at he
    ·rename_i hk;subst hk;split at he
     ·rename_i el hel;simp only[Qb]at he;obtain⟨z,hz,he⟩:=he;injection he with h1 h2
      subst h1 h2;obtain⟨hN,hv⟩:=r.JI (show(S.gh L).V id=ao from hver)
      obtain⟨vs,hown,hk,hr⟩:=h.kv hN hc;rw[show(S.gh L).L id=L id from rfl]at hv
      have hlen:el.length=k:=hk el (Q8 hel)
      have hsub:bf w (bs E S L) (S.gh L) el ((vs.drop (i*k)).take k):=by
       have h1:=(hr.drop (i*k)).take k
       have h2:(es.flatten.drop (i*k)).take k=el:=by
        apply List.ext_getElem?;intro j;rw[Qq68];split
        ·rename_i hj;rw[List.getElem?_drop,xP es k i el hk hel j hj]
        ·rw[Qq72 (by omega)]
       rw[h2]at h1;exact h1
      rcases hown.2 with⟨hL,h0⟩|⟨g,cap,cur,hL,hb1,hh,_,_,_,htake⟩
      ·have:es=[]:=Qq67 h0;subst this;simp at hel
      ·rw[hL]at hv;simp only[cq,Qe]at hv
       obtain⟨v,hrun,hx⟩:=HD (P:=P) (ad:=⟨g,i*k+off,none⟩) ht (hsub.drop off) (fun j u hu=>by
        rw[add_mid];refine pz hh ?_;have h1:=gQ hu;rw[Qq68]at h1;split at h1
        ·rw[List.getElem?_drop,<-htake,Qq68]at h1;split at h1
         ·rw[<-h1];congr 1;omega
         ·cases h1
        ·cases h1) hz
       exact Good.pure h (run_load ho hv hrun) hx
     ·cases he
    ·cases he
   ·cases he
  ·cases he
 ·rename_i cs e;rw[e]at r;simp only[Qb]at he;obtain⟨z,hz,he⟩:=he;injection he with h1 h2
  subst h1 h2;obtain⟨ad,vs,hv,hr,hc⟩:=r.Hu;obtain⟨v,hrun,hx⟩:=HD (P:=P) (ad:=ad) ht hr (fun i u hu=>(hc i u hu).1) hz
  exact Good.pure h (run_load ho hv hrun) (hx.mono (dI.of fun _ hm=>hm) (dj.le _))
 ·cases he
theorem add_add(ad:Addr)(i j:Nat):(ad.add i).add j=ad.add (i+j):=by
 unfold Addr.add
 by_cases hi:i=0<;>by_cases hj:j=0<;>simp[hi,hj,Nat.add_assoc]
theorem Pp{M:Nat->Prop}{G:Gh}{cs:List PV}{ad:Addr}{vs:List Value}(hr:bf w M dj cs vs)(hc:∀(i:Nat) (u:Value),vs[i]?=some u->w.cell? (ad.add i)=some u/\¬M ad.block)(n:Nat):
  bg w M G (.ref (cs.drop n)) (.pointer (some (ad.add n))):=by
 have h1:=hr.drop n;exact .ref _ _ _ h1.1 (fun i u hu=>by rw[add_add,G7];exact hc _ u (gQ hu)) h1.2
theorem Mm{fd:Field}{i:TypeInfo}(hi:P.info? fd.type=some i)(h0:i.size≠0)(ad:Addr):(fieldPlace ad fd).run P w= .ok (ad.add fd.offset) w:=by
 simp[fieldPlace,sizeOf,typeInfo,hi,h0]
theorem F7{s:TypeId}{y:Operand}{f:Nat}{fields:Array Field}{fd:Field}{i:TypeInfo}{ad:Addr}(ho:o.op= .fieldAddr s y f)(hs:P.underlying s=some (.struct fields))(hf:fields[f]?=some fd)
  (hi:P.info? fd.type=some i) (h0:i.size≠0) (hv:a.eval y= .pointer (some ad)):(execOp a.eval o).run P w= .ok (.value (.pointer (some (ad.add fd.offset)))) w:=by
 simp[execOp,ho,Instr.fieldAt,run_underlying hs,hf,hv,Instr.sureAddr,Mm hi h0]
theorem bg.Nx{M:Nat->Prop}{G:Gh}{id ao off:Nat}{ad:Addr}(n:Nat)(h:bg w M G (.ptr id ao off) (.pointer (some ad))):bg w M G (.ptr id ao (off+n)) (.pointer (some (ad.add n))):=by
 cases h with
 |ptr _ _ _ _ hN hV h=>
  refine .ptr _ _ _ _ hN hV (fun e=> ?_)
  have:=h e
  cases hb:cq (G.L id)with
  |none=>rw[hb]at this;cases this
  |some b=>
   rw[hb]at this;simp only[Qe,Qf]at this ⊢;rw[this,add_mid]
theorem bg.Vc{M:Nat->Prop}{G:Gh}{id ao k i off:Nat}{ad:Addr}(n:Nat)(h:bg w M G (.eQ id ao k i off) (.pointer (some ad))):bg w M G (.eQ id ao k i (off+n)) (.pointer (some (ad.add n))):=by
 cases h with
 |eQ _ _ _ _ _ _ hN hV h=>
  refine .eQ _ _ _ _ _ _ hN hV (fun e=> ?_)
  have:=h e
  cases hb:cq (G.L id)with
  |none=>rw[hb]at this;cases this
  |some b=>
   rw[hb]at this;simp only[Qe,Qf]at this ⊢;rw[this,add_mid,Nat.add_assoc]
theorem Rel.sZ(h:Rel E S a w L){id ao off:Nat}{v:Value}{cs:List PV}(r:bg w (bs E S L) (S.gh L) (.ptr id ao off) v)(hver:(S.H id).ao=ao)(hc:(S.H id).c= .box cs):
  ∃b,v= .pointer (some ⟨b,off,none⟩)/\L id= .pointer (some ⟨b,0,none⟩):=by
 obtain⟨hN,hv⟩:=r.sn (show(S.gh L).V id=ao from hver)
 obtain⟨b,cur,T,hL,hh,hr,_⟩:=h.rY hN hc;rw[show(S.gh L).L id=L id from rfl,hL]at hv
 exact⟨b,hv,hL⟩
theorem Rel.Xd(h:Rel E S a w L){id ao k i off:Nat}{v:Value}{e0 k':Nat}{es:List (List PV)}(r:bg w (bs E S L) (S.gh L) (.eQ id ao k i off) v)(hver:(S.H id).ao=ao)(hc:(S.H id).c= .row e0 k' es)(hi:i<es.length):
  ∃b n cap,v= .pointer (some ⟨b,i*k+off,none⟩)/\L id= .slice (some ⟨b,0,none⟩) n cap:=by
 obtain⟨hN,hv⟩:=r.JI (show(S.gh L).V id=ao from hver)
 obtain⟨vs,hown,hk,hr⟩:=h.kv hN hc;rcases hown.2 with⟨hL,h0⟩|⟨g,cap,cur,hL,hb1,hh,_⟩
 ·omega
 ·rw[show(S.gh L).L id=L id from rfl,hL]at hv
  exact⟨g,_,cap,hv,hL⟩
theorem abc(h:Rel E S a w L){s:TypeId}{y:Operand}{y':bo}{f:Nat}{fields:Array Field}{fd:Field}{i:TypeInfo}(ho:o.op= .fieldAddr s y f)(hs:P.underlying s=some (.struct fields))(hf:fields[f]?=some fd)
  (hi:P.info? fd.type=some i) (h0:i.size≠0) (hy:bA y=some y') (he:exec Γ nid S (.zx fd.offset y')=some (x,wr)):Good P E S a w o x wr:=by
 have r:=h.iw hy;simp only[exec]at he;split at he
 ·rename_i id ao off e;rw[e]at r;split at he
  ·rename_i hver;split at he
   ·rename_i cs hc;obtain⟨rfl,rfl⟩:=bR he;obtain⟨b,hv,_⟩:=h.sZ r hver hc;rw[hv]at r;exact Good.pure h (F7 ho hs hf hi h0 hv) (r.Nx _)
   ·cases he
  ·cases he
 ·rename_i id ao k j off e;rw[e]at r;split at he
  ·rename_i hver;split at he
   ·rename_i hc;split at he
    ·rename_i hj;obtain⟨rfl,rfl⟩:=bR he;obtain⟨b,n,cap,hv,_⟩:=h.Xd r hver hc hj;rw[hv]at r;exact Good.pure h (F7 ho hs hf hi h0 hv) (r.Vc _)
    ·cases he
   ·cases he
  ·cases he
 ·rename_i cs e;rw[e]at r;obtain⟨rfl,rfl⟩:=bR he;obtain⟨ad,vs,hv,hr,hc⟩:=r.Hu;exact Good.pure h (F7 ho hs hf hi h0 hv) (Pp hr hc _)
 ·cases he
theorem aba(h:Rel E S a w L){y:Operand}{y':bo}(ho:o.op= .nilCheck y)(hy:bA y=some y')(he:exec Γ nid S (.zr y')=some (x,wr)):Good P E S a w o x wr:=by
 have r:=h.iw hy;simp only[exec]at he;split at he
 ·rename_i id ao off e;rw[e]at r;split at he
  ·rename_i hver;split at he
   ·rename_i cs hc;obtain⟨rfl,rfl⟩:=bR he;obtain⟨b,hv,_⟩:=h.sZ r hver hc;exact Good.pure (v:=a.eval y) h (by simp[execOp,ho,hv]) r
   ·cases he
  ·cases he
 ·rename_i cs e;rw[e]at r;obtain⟨rfl,rfl⟩:=bR he;obtain⟨ad,vs,hv,hr,hc⟩:=r.Hu;exact Good.pure (v:=a.eval y) h (by simp[execOp,ho,hv]) r
 ·rename_i f cs e;rw[e]at r;obtain⟨rfl,rfl⟩:=bR he;obtain⟨vs,hv,hr⟩:=r.w7;exact Good.pure (v:=a.eval y) h (by simp[execOp,ho,hv]) r
 ·cases he
theorem Rel.Hj(h:Rel E S a w L){id k lo n:Nat}{ad:Option Addr}{c:Nat}{e0 k':Nat}{es:List (List PV)}(hN:id<S.N)(hc:(S.H id).c= .row e0 k' es)(hat:R7 (L id) k lo n ad c):lo+n<=es.length:=by
 obtain⟨a0,m0,c0,hl,h1,_⟩:=hat;obtain⟨vs,hown,hk,hr⟩:=h.kv hN hc;rcases hown.2 with⟨hL,h0⟩|⟨g,cap,cur,hL,_⟩
 ·rw[hL]at hl;injection hl with e1 e2 e3;omega
 ·rw[hL]at hl;injection hl with e1 e2 e3;omega
theorem F6{t e:TypeId}{y z:Operand}{ad:Addr}{n c:Nat}{i:TypeInfo}{k:IntKind}{j:Int}(ho:o.op= .indexAddr t y z)(ht:P.underlying t=some (.slice e))(hi:P.info? e=some i)
  (hv:a.eval y= .slice (some ad) n c) (hz:a.eval z= .int k j) (h0:0<=j) (h1:j<n):(execOp a.eval o).run P w= .ok (.value (.pointer (some (ad.add (j.toNat*i.size))))) w:=by
 simp[execOp,ho,Instr.indexAt,run_underlying ht,hv,hz,asIntOf,sizeOf,typeInfo,hi,h0,h1]
theorem abb(h:Rel E S a w L){t e:TypeId}{y z:Operand}{y' z':bo}{i:TypeInfo}(ho:o.op= .indexAddr t y z)(ht:P.underlying t=some (.slice e))(hi:P.info? e=some i)(hy:bA y=some y')(hz:bA z=some z')
  (he:exec Γ nid S (.ru i.size y' z')=some (x,wr)):Good P E S a w o x wr:=by
 have r:=h.iw hy;have rz:=h.iw hz;simp only[exec]at he;split at he
 ·rename_i kk j ej;rw[ej]at rz;have hj:=rz.fG;split at he
  ·rename_i es ee;rw[ee]at r;split at he
   ·rename_i hb;split at he
    ·rename_i el hel;split at he
     ·rename_i hlen;obtain⟨rfl,rfl⟩:=bR he;rcases r.DA with⟨_,h0⟩|⟨ad,c,k,vs,hv,hk,hr,hc,_,_⟩
      ·subst h0;simp at hel
      ·have hk':k=i.size:=(hk el (Q8 hel)).symm.trans hlen;subst hk';refine Good.pure h (F6 ho ht hi hv hj hb.1 hb.2) ?_
       have h2:(es.flatten.drop (j.toNat*i.size)).take i.size=el:=by
        apply List.ext_getElem?;intro q;rw[Qq68];split
        ·rename_i hq;rw[List.getElem?_drop,xP es i.size j.toNat el hk hel q hq]
        ·rw[Qq72 (by omega)]
       have h1:=(hr.drop (j.toNat*i.size)).take i.size;rw[h2]at h1;refine .ref _ _ _ h1.1 (fun q u hu=> ?_) h1.2
       rw[Qq68]at hu;split at hu
       ·rw[add_add,G7];exact hc _ u (gQ hu)
       ·cases hu
     ·cases he
    ·cases he
   ·cases he
  ·rename_i id ao ee;rw[ee]at r;split at he
   ·rename_i hver;split at he
    ·rename_i e0 k' es hc;split at he
     ·rename_i hb;obtain⟨rfl,rfl⟩:=bR he;obtain⟨hN,hv⟩:=r.mK (show(S.gh L).V id=ao from hver)
      obtain⟨vs,hown,hk,hr⟩:=h.kv hN hc;rcases hown.2 with⟨hL,h0⟩|⟨g,cap,cur,hL,hb1,hh,_⟩
      ·omega
      ·rw[show(S.gh L).L id=L id from rfl,hL]at hv
       refine Good.pure h (F6 ho ht hi hv hj hb.2.1 hb.2.2) ?_;refine .eQ _ _ _ _ _ _ hN (Nat.le_of_eq hver.symm) (fun _=> ?_)
       rw[show(S.gh L).L id=L id from rfl,hL]
       simp[cq,add_mid]
     ·cases he
    ·cases he
   ·cases he
  ·rename_i id ao k0 lo m ee;rw[ee]at r;split at he
   ·rename_i hver;split at he
    ·rename_i e0 k' es hc;split at he
     ·rename_i hb;obtain⟨hk1,hk0,hb0,hb1,hb2⟩:=hb;subst hk0;obtain⟨rfl,rfl⟩:=bR he;obtain⟨hN,ad,c,hv,a0,m0,c0,hl,h1,h2,h3,h4⟩:=r.yy (show(S.gh L).V id=ao from hver)
      obtain⟨vs,hown,hk,hr⟩:=h.kv hN hc;have hl:L id= .slice a0 m0 c0:=hl;rcases hown.2 with⟨hL,h0⟩|⟨g,cap,cur,hL,hb1',hh,_⟩
      ·omega
      ·rw[hL]at hl;injection hl with e1 e2 e3
       subst e1 e2 e3;rcases h4 with h4|h4
       ·omega
       ·subst h4;refine Good.pure h (F6 ho ht hi hv hj hb0 hb1) ?_;refine .eQ _ _ _ _ _ _ hN (Nat.le_of_eq hver.symm) (fun _=> ?_)
        rw[show(S.gh L).L id=L id from rfl,hL]
        simp[cq,add_mid,Qq73]
     ·cases he
    ·cases he
   ·cases he
  ·cases he
 ·cases he
theorem Nq{t e:TypeId}{y z:Operand}{ad:Addr}{n:Nat}{i:TypeInfo}{k:IntKind}{j:Int}(ho:o.op= .indexAddr t y z)(ht:P.underlying t=some (.array n e))(hi:P.info? e=some i)
  (hv:a.eval y= .pointer (some ad)) (hz:a.eval z= .int k j) (h0:0<=j) (h1:j<n):(execOp a.eval o).run P w= .ok (.value (.pointer (some (ad.add (j.toNat*i.size))))) w:=by
 simp[execOp,ho,Instr.indexAt,Instr.sureAddr,run_underlying ht,hv,hz,asIntOf,sizeOf,typeInfo,hi,h0,h1]
theorem abf(h:Rel E S a w L){t e:TypeId}{n:Nat}{y z:Operand}{y' z':bo}{i:TypeInfo}(ho:o.op= .indexAddr t y z)(ht:P.underlying t=some (.array n e))(hi:P.info? e=some i)(hy:bA y=some y')(hz:bA z=some z')
  (he:exec Γ nid S (.zC i.size n y' z')=some (x,wr)):Good P E S a w o x wr:=by
 have r:=h.iw hy;have rz:=h.iw hz;simp only[exec]at he;split at he
 ·rename_i kk j ej;rw[ej]at rz;have hj:=rz.fG;split at he
  ·rename_i hb;split at he
   ·rename_i id ao off e;rw[e]at r;split at he
    ·rename_i hver;split at he
     ·rename_i cs hc;obtain⟨rfl,rfl⟩:=bR he;obtain⟨b,hv,_⟩:=h.sZ r hver hc;rw[hv]at r;exact Good.pure h (Nq ho ht hi hv hj hb.1 hb.2) (r.Nx _)
     ·cases he
    ·cases he
   ·rename_i cs e;rw[e]at r;obtain⟨rfl,rfl⟩:=bR he;obtain⟨ad,vs,hv,hr,hc⟩:=r.Hu;exact Good.pure h (Nq ho ht hi hv hj hb.1 hb.2) (Pp hr hc _)
   ·cases he
  ·cases he
 ·cases he
theorem acS(h:Rel E S a w L){t:TypeId}{y z:Operand}{y' z':bo}(ho:o.op= .index t y z)(ht:P.underlying t=some .string)(hy:bA y=some y')(hz:bA z=some z')
  (he:exec Γ nid S (.xi y' z')=some (x,wr)):Good P E S a w o x wr:=by
 have ry:=h.iw hy;have rz:=h.iw hz;simp only[exec]at he;split at he
 ·rename_i s kk n e1 e2;rw[e1]at ry;rw[e2]at rz;have hv:=ry.wU;have hj:=rz.fG;simp only[Qb]at he;obtain⟨b,hb,he⟩:=he;injection he with h1 h2
  subst h1 h2;unfold xi at hb;split at hb
  ·rename_i h0;simp only[Qb]at hb;obtain⟨c,hc,rfl⟩:=hb;exact Good.pure h (by simp[execOp,ho,Instr.index,run_underlying ht,hv,hj,asIntOf,h0,hc]) (.int _ _)
  ·cases hb
 ·cases he
theorem Tn{M:Nat->Prop}{G:Gh}{t:TypeId}{n:Option Nat}{cs':List PV}{vs:List Value}{off:Nat}{x:PV}(ht:sC P t=some n)(hrd:bf w M G cs' (vs.drop off))(hx:sN n cs'=some x):∃v,(part t vs.toArray off).run P w= .ok v w/\bg w M G x v:=by
 cases n with
 |none=>
  cases hcs:cs' with
  |nil=>rw[hcs]at hx;simp[sN]at hx
  |cons y ys=>
   rw[hcs]at hx hrd;simp only[sN,Qf]at hx;subst hx;obtain⟨v,us,hus,h1,_⟩:=hrd.cons_inv;refine⟨v,?_,h1⟩
   have hv:vs[off]?=some v:=by
    have:(vs.drop off)[0]?=some v:=by rw[hus];rfl
    simpa[List.getElem?_drop]using this
   have hag:(isAgg t).run P w= .ok false w:=by
    unfold sC at ht;split at ht
    ·simp at ht
    ·simp at ht
    ·rename_i d _ hu hd;unfold isAgg;rw[Sem.run_bind,run_underlying hd w];cases d<;>simp_all
    ·cases ht
   simp[part,hag,hv]
 |some m=>
  simp only[sN]at hx;split at hx
  ·rename_i hm;injection hx with hx
   subst hx
   have hi:∃i,P.info? t=some i/\i.size=m:=by
    unfold sC at ht;split at ht
    ·simpa using ht
    ·simpa using ht
    ·simp at ht
    ·cases ht
   obtain⟨i,hi,hs⟩:=hi
   have hag:(isAgg t).run P w= .ok true w:=by
    unfold sC at ht;unfold isAgg;split at ht
    ·rename_i hu;rw[Sem.run_bind,run_underlying hu w];simp
    ·rename_i hu;rw[Sem.run_bind,run_underlying hu w];simp
    ·simp at ht
    ·cases ht
   have h3:=hrd.take m;refine⟨.agg ((vs.drop off).take m).toArray,?_,.agg _ _ h3.1 h3.2⟩;simp only[part,Sem.run_bind,hag,Result.andThen_ok,sizeOf,typeInfo];simp[program,Sem.run,hi,hs]
  ·cases hx
theorem aav{M:Nat->Prop}{G:Gh}{t:TypeId}{n:Option Nat}{cs:List PV}{vs:List Value}{off:Nat}{x:PV}(ht:sC P t=some n)(hr:bf w M G cs vs)(hx:sN n ((cs.drop off).map nz)=some x):∃v,(part t vs.toArray off).run P w= .ok v w/\bg w M G x v:=by
 have hrd:bf w M G ((cs.drop off).map nz) (vs.drop off):=⟨by simp[hr.1],fun i y v hy hv=>by
  rw[QT,Qb]at hy;obtain⟨y0,hy0,rfl⟩:=hy;have h0:=(hr.drop off).2 i y0 v hy0 hv
  cases h0 with
  |dR=>exact .slnil
  |any=>exact .any _
  |undef=>exact .undef
  |int k n=>exact .int k n
  |bool b=>exact .bool b
  |gH b=>exact .gH b
  |str s=>exact .str s
  |kJ=>exact .kJ
  |bG f caps us hl h=>exact .bG f caps us hl h
  |jk f caps us hl h=>exact .jk f caps us hl h
  |agg cs us hl h=>exact .agg cs us hl h
  |dO cs us hl h=>exact .dO cs us hl h
  |ptr id ao off a hN hV h=>exact .ptr id ao off a hN hV h
  |ref cs a us hl hc h=>exact .ref cs a us hl hc h
  |sl es a c k us hk hl hc h hn hm=>exact .sl es a c k us hk hl hc h hn hm
  |slnil=>exact .slnil
  |own id ao a n c hN hV h=>exact .own id ao a n c hN hV h
  |eQ id ao k i off a hN hV h=>exact .eQ id ao k i off a hN hV h
  |view id ao k lo n a c hN hV h=>exact .view id ao k lo n a c hN hV h
  |iK ks us b es ck hb hMb hk hl h1 h2=>exact .iK ks us b es ck hb hMb hk hl h1 h2⟩
 exact Tn ht hrd hx
theorem aed(h:Rel E S a w L){t:TypeId}{fs:Array Field}{f:Field}{n:Option Nat}{i:Nat}{y:Operand}{y':bo}(ho:o.op= .field t y i)(ht:P.underlying t=some (.struct fs))(hf:fs[i]?=some f)(hn:sC P f.type=some n)(hy:bA y=some y')
  (he:exec Γ nid S (.IK n f.offset y')=some (x,wr)):Good P E S a w o x wr:=by
 have ry:=h.iw hy;simp only[exec]at he;split at he
 ·rename_i cs e1;rw[e1]at ry;obtain⟨vs,hv,hr⟩:=ry.n5;simp only[Qb]at he;obtain⟨b,hb,he⟩:=he;injection he with h1 h2
  subst h1 h2;obtain⟨v,hp,hrv⟩:=Tn (w:=w) hn (hr.drop f.offset) hb;refine Good.pure h (v:=v) ?_ hrv;simp[execOp,ho,Instr.field,run_underlying ht,hv,hf,asAgg,hp]
 ·cases he
theorem acZ(h:Rel E S a w L){t e:TypeId}{n:Option Nat}{len:Nat}{i:TypeInfo}{y z:Operand}{y' z':bo}(ho:o.op= .index t y z)(ht:P.underlying t=some (.array len e))(hn:sC P e=some n)(hi:P.info? e=some i)(hy:bA y=some y')(hz:bA z=some z')
  (he:exec Γ nid S (.Dn e n len i.size y' z')=some (x,wr)):Good P E S a w o x wr:=by
 have ry:=h.iw hy;have rz:=h.iw hz;simp only[exec]at he;split at he
 ·rename_i cs kk j e1 e2;rw[e1]at ry;rw[e2]at rz;obtain⟨vs,hv,hr⟩:=ry.n5;have hj:=rz.fG;split at he
  ·rename_i h0;simp only[Qb]at he;obtain⟨b,hb,he⟩:=he;injection he with h1 h2
   subst h1 h2;obtain⟨v,hp,hrv⟩:=aav (w:=w) hn hr hb;refine Good.pure h (v:=v) ?_ hrv;have hsz:(Go.sizeOf e).run P w= .ok i.size w:=by simp[sizeOf,typeInfo,program,Sem.run,hi]
   simp[execOp,ho,Instr.index,run_underlying ht,hv,hj,asIntOf,h0.1,h0.2,hsz,hp]
  ·cases he
 ·cases he
theorem Rel.Ry(h:Rel E S a w L){y:PV}{v:Value}{es:List (List PV)}(r:bg w (bs E S L) (S.gh L) y v)(he:kG S y=some es):∃(ad:Option Addr) (c:Nat),v= .slice ad es.length c:=by
 unfold kG at he;split at he
 ·injection he with he;subst he;exact⟨none,0,r.pT⟩
 ·injection he with he;subst he
  rcases r.DA with⟨hv,h0⟩|⟨ad,c,k,vs,hv,_⟩
  ·subst h0;exact⟨none,0,hv⟩
  ·exact⟨_,_,hv⟩
 ·rename_i id ao;split at he
  ·rename_i hver;split at he
   ·rename_i hc;injection he with he;subst he
    obtain⟨hN,hv⟩:=r.mK (show(S.gh L).V id=ao from hver)
    obtain⟨vs,hown,hk,hr⟩:=h.kv hN hc;rcases hown.2 with⟨hL,h0⟩|⟨g,cap,cur,hL,_⟩
    ·exact⟨none,0,by rw[hv,show(S.gh L).L id=L id from rfl,hL,h0]⟩
    ·exact⟨_,_,by rw[hv,show(S.gh L).L id=L id from rfl,hL]⟩
   ·cases he
  ·cases he
 ·rename_i id ao k lo n;split at he
  ·rename_i hver;split at he
   ·split at he
    ·rename_i e1 k' es0 hc _;injection he with he;subst he
     obtain⟨hN,ad,c,hv,hat⟩:=r.yy (show(S.gh L).V id=ao from hver)
     have hb:=h.Hj hN hc hat;refine⟨ad,c,?_⟩;rw[hv];congr 1;simp;omega
    ·cases he
   ·cases he
  ·cases he
 ·cases he
theorem acV(h:Rel E S a w L){y:Operand}{y':bo}{t:TypeId}(ho:o.op= .call {callee:= .builtin .len,args:=#[y],argTypes:=#[t]})(ht:P.underlying t=some .string)(hy:bA y=some y')
  (he:exec Γ nid S (.len true y')=some (x,wr)):Good P E S a w o x wr:=by
 have r:=h.iw hy;simp only[exec]at he;split at he
 ·rename_i s e;rw[e]at r;obtain⟨rfl,rfl⟩:=bR he;have hv:=r.wU;exact Good.pure h (by simp[execOp,ho,resolve,invoke,builtin,Builtin.len_,run_underlying ht,hv,goInt]) (.int _ _)
 ·cases he
theorem aec(h:Rel E S a w L){y:Operand}{y':bo}{t e:TypeId}(ho:o.op= .call {callee:= .builtin .len,args:=#[y],argTypes:=#[t]})(ht:P.underlying t=some (.slice e))(hy:bA y=some y')
  (he:exec Γ nid S (.len false y')=some (x,wr)):Good P E S a w o x wr:=by
 have r:=h.iw hy;simp only[exec,Qb]at he;obtain⟨es,hes,he⟩:=he;injection he with h1 h2
 subst h1 h2;obtain⟨ad,c,hv⟩:=h.Ry r hes;exact Good.pure h (by simp[execOp,ho,resolve,invoke,builtin,Builtin.len_,run_underlying ht,hv,goInt]) (.int _ _)
theorem Rn(h:Rel E S a w L){y z:Operand}{y' z':bo}{mx:Bool}{ts:Array TypeId}(ho:o.op= .call {callee:= .builtin (if mx then .max else .min),args:=#[y,z],argTypes:=ts})(hy:bA y=some y')(hz:bA z=some z')
  (he:exec Γ nid S (.te mx y' z')=some (x,wr)):Good P E S a w o x wr:=by
 have ry:=h.iw hy;have rz:=h.iw hz;simp only[exec]at he;split at he
 ·rename_i k p k' q e1 e2;split at he
  ·rename_i hk;subst hk;obtain⟨rfl,rfl⟩:=bR he;rw[e1]at ry;rw[e2]at rz;have hv:=ry.fG;have hu:=rz.fG;cases mx
   ·exact Good.pure h (by simp[execOp,ho,resolve,invoke,builtin,Builtin.min_,Builtin.min2,hv,hu]) (.int _ _)
   ·exact Good.pure h (by simp[execOp,ho,resolve,invoke,builtin,Builtin.max_,Builtin.max2,hv,hu]) (.int _ _)
  ·cases he
 ·cases he
end
end
section
open Go.RowKit
section
variable {P : Program} {E : En} {S : St} {a : Act} {w : World} {L : Nat -> Value} {o : Oper} {x : PV} {wr : Option (Nat × fT)} {Γ : ow} {nid : Nat}
theorem Lv(off:Nat):∀(vs:List Value) (s:Nat) (cells:Array Value),off+s+vs.length<=cells.size->
  ((vs.zipIdx s).foldl (fun cs (p:Value×Nat)=>cs.setIfInBounds (off+p.2) p.1) cells).toList=cells.toList.take (off+s)++vs++cells.toList.drop (off+s+vs.length)
 |[],s,cells,_=>by simp
 |v::vs,s,cells,h=>by
  simp only[List.zipIdx_cons,QU];rw[Lv off vs (s+1) _ (by simp at h ⊢;omega)]
  have:=list_seg_step cells.toList (off+s) v vs (by simp at h ⊢;omega)
  simpa[Array.toList_setIfInBounds,Nat.add_assoc]using this
theorem U6(off:Nat)(vs cells:Array Value)(h:off+vs.size<=cells.size):
  (vs.zipIdx.foldl (fun cs (p:Value×Nat)=>cs.setIfInBounds (off+p.2) p.1) cells).toList=cells.toList.take off++vs.toList++cells.toList.drop (off+vs.size):=by
 have:=Lv off vs.toList 0 cells (by simpa using h)
 simp only[Nat.add_zero,Array.length_toList]at this;rw[<-this,<-Array.foldl_toList];simp
theorem bf.iE{M:Nat->Prop}{G:Gh}{cs xs:List PV}{vs us:List Value}(h:bf w M G cs vs)(k:bf w M G xs us)(off:Nat):
  bf w M G (iE cs off xs) (vs.take off++us++vs.drop (off+us.length)):=by
 unfold TQ.iE;rw[k.1];exact((h.take off).append k).append (h.drop _)
theorem HK(h:Rel E S a w L)(place:Nat->Option (Nat×Nat)):∀(parts:List (Nat×Operand)) (ps:List (Nat×Nat×bo)) (cells:Array Value) (cs cs':List PV),vr place parts=some ps->
  bf w (bs E S L) (S.gh L) cs cells.toList->qC S cs ps=some cs'->∃cells',Instr.fill place cells (parts.map fun p=>(p.1,a.eval p.2))=some cells'/\bf w (bs E S L) (S.gh L) cs' cells'.toList
 |[],ps,cells,cs,cs',hp,hr,hf=>by
  simp[vr]at hp;subst hp;simp only[qC,Qf]at hf;subst hf;exact⟨cells,rfl,hr⟩
 |(i,y)::rest,ps,cells,cs,cs',hp,hr,hf=>by
  simp only[vr,Qq75,Qd,Qc,Option.pure_def,Qf]at hp;obtain⟨_,⟨⟨off,n⟩,hq,y',hy,rfl⟩,qs,hqs,rfl⟩:=hp;simp only[qC]at hf;split at hf
  ·rename_i hb;obtain⟨h1,h2,h3⟩:=hb;have r:=(h.iw hy).cells (fun z hz=>QH.1 h3 z hz)
   have hn:(a.eval y).cells.size=n:=by have:=r.1.1;simp at this;omega
   have hlen:cells.size=cs.length:=by have:=hr.1;simpa using this
   have hfc:=U6 off (a.eval y).cells cells (by omega)
   have hr2:bf w (bs E S L) (S.gh L) (TQ.iE cs off (y'.val S).cells) ((a.eval y).cells.zipIdx.foldl (fun cs (p:Value×Nat)=>cs.setIfInBounds (off+p.2) p.1) cells).toList:=by
    rw[hfc];have:=hr.iE r.1 off;simpa using this
   obtain⟨cells',hfl,hr'⟩:=HK h place rest qs _ _ cs' hqs hr2 hf;refine⟨cells',?_,hr'⟩;simp only[QD,Instr.fill,hq];rw[Qs (by simp[hn];omega)]
   exact hfl
  ·cases hf
theorem KW{M:Nat->Prop}{G:Gh}:∀{vs:List Value} {cs:List PV},vs.mapM yW=some cs->bf w M G cs vs
 |[],cs,h=>by simp at h;subst h;exact .nil
 |v::vs,cs,h=>by
  simp only[Qq75,Qd,Qc,Option.pure_def,Qf]at h;obtain⟨x,hx,xs,hxs,rfl⟩:=h;exact .cons (Dl hx) (KW hxs)
theorem Bq{M:Nat->Prop}{G:Gh}{t:TypeId}{z:List PV}(h:tQ P t=some z):∃i v,P.info? t=some i/\i.zero=some v/\v.cells.size=i.size/\bf w M G z v.cells.toList:=by
 unfold tQ at h;split at h
 ·rename_i i hi;split at h
  ·rename_i v hv;split at h
   ·rename_i hs;exact⟨i,v,hi,hv,hs,KW h⟩
   ·cases h
  ·cases h
 ·cases h
theorem TG(h:Rel E S a w L){t:TypeId}{parts:Array (Nat×Operand)}{z:List PV}{ps:List (Nat×Nat×bo)}(ho:o.op= .build t parts)(hz:tQ P t=some z)
  (hp:(∃fields places,P.underlying t=some (.struct fields)/\fields.toList.mapM (fun f=>(P.info? f.type).map fun i=>(f.offset,i.size))=some places/\vr (fun i=>places[i]?) parts.toList=some ps)\/
   (∃n e i,P.underlying t=some (.array n e)/\P.info? e=some i/\vr (fun j=>some (j*i.size,i.size)) parts.toList=some ps))
  (he:exec Γ nid S (.build z ps)=some (x,wr)):Good P E S a w o x wr:=by
 simp only[exec,Qb]at he;obtain⟨cs,hf,he⟩:=he;injection he with h1 h2
 subst h1 h2;obtain⟨i,v,hi,hv,hs,hr⟩:=Bq (P:=P) (w:=w) (M:=bs E S L) (G:=S.gh L) hz;rcases hp with⟨fields,places,hu,hpl,hc⟩|⟨n,e,ie,hu,hie,hc⟩
 ·obtain⟨cells,hfl,hr'⟩:=HK h _ _ _ _ _ _ hc hr hf;refine Good.pure (v:= .agg cells) h ?_ (by have:=hr';exact(show(cells:Array Value)=cells.toList.toArray by simp)▸ .agg cs cells.toList this.1 this.2)
  have hb:P.built t (parts.map fun(i,x)=>(i,a.eval x)).toList=some cells:=by
   simp only[Program.built,hi,hu,hv,hpl];simpa using hfl
  simp only[execOp,ho,Sem.run_bind,run_build w t _ cells hb,Result.andThen_ok,Sem.run_pure]
 ·obtain⟨cells,hfl,hr'⟩:=HK h _ _ _ _ _ _ hc hr hf;refine Good.pure (v:= .agg cells) h ?_ (by have:=hr';exact(show(cells:Array Value)=cells.toList.toArray by simp)▸ .agg cs cells.toList this.1 this.2)
  have hb:P.built t (parts.map fun(i,x)=>(i,a.eval x)).toList=some cells:=by
   simp only[Program.built,hi,hu,hv,hie];simpa using hfl
  simp only[execOp,ho,Sem.run_bind,run_build w t _ cells hb,Result.andThen_ok,Sem.run_pure]
end
end
section
open Go.RowKit
section
variable {P : Program} {E : En} {S : St} {a : Act} {w : World} {L : Nat -> Value} {o : Oper} {x : PV} {wr : Option (Nat × fT)} {Γ : ow} {nid : Nat}
theorem Rel.WD(h:Rel E S a w L)(hn:nid<S.N){cs:List PV}{cur:Array Value}(T:TypeId)(hr:bf w (bs E S L) (S.gh L) cs cur.toList):
  ∃L',Rel E (S.fu (some (nid,⟨(S.H nid).ao+1,.box cs⟩))) a (w.alloc (.cells cur T)) L'/\
   bg (w.alloc (.cells cur T)) (bs E (S.fu (some (nid,⟨(S.H nid).ao+1,.box cs⟩))) L') ((S.fu (some (nid,⟨(S.H nid).ao+1,.box cs⟩))).gh L') (.ptr nid ((S.H nid).ao+1) 0) (.pointer (some ⟨w.heap.size,0,none⟩)):=by
 obtain⟨h1,hs,hg⟩:=h.sW (w':=w.alloc (.cells cur T)) hn ⟨(S.H nid).ao+1,.box cs⟩ (.pointer (some ⟨w.heap.size,0,none⟩)) (.inr (Nat.lt_succ_self _)) rfl rfl rfl (by simp)
  (fun b hb _=>Below.heap_alloc _ _ _ hb) (fun b _ hb=> .inr (by simp only[cq,Qf]at hb;omega))
  (fun hs hg=>⟨w.heap.size,cur,T,rfl,heap_alloc_new w _,.inr h.fr.size,hr.mono hs hg⟩)
 refine⟨_,h1,?_⟩;refine .ptr _ _ _ _ hn ?_ (fun _=> ?_)
 ·simp[St.gh,St.fu,cr]
 ·simp[St.gh,St.fu,cr,cq]
theorem Rel.newRow(h:Rel E S a w L)(hn:nid<S.N){e k:Nat}{es:List (List PV)}{cur:Array Value}(hk:∀u∈es,u.length=k)(hm:es.length<=maxLen)(hr:bf w (bs E S L) (S.gh L) es.flatten cur.toList):
  ∃L',Rel E (S.fu (some (nid,⟨(S.H nid).ao+1,.row e k es⟩))) a (w.alloc (.cells cur e)) L'/\
   bg (w.alloc (.cells cur e)) (bs E (S.fu (some (nid,⟨(S.H nid).ao+1,.row e k es⟩))) L') ((S.fu (some (nid,⟨(S.H nid).ao+1,.row e k es⟩))).gh L') (.own nid ((S.H nid).ao+1)) (.slice (some ⟨w.heap.size,0,none⟩) es.length es.length):=by
 have hl:cur.toList.length=es.length*k:=by rw[hr.1,p6 es k hk]
 obtain⟨h1,hs,hg⟩:=h.sW (w':=w.alloc (.cells cur e)) hn ⟨(S.H nid).ao+1,.row e k es⟩ (.slice (some ⟨w.heap.size,0,none⟩) es.length es.length) (.inr (Nat.lt_succ_self _)) rfl rfl rfl (by simp)
  (fun b hb _=>Below.heap_alloc _ _ _ hb) (fun b _ hb=> .inr (by simp only[cq,Qf]at hb;omega))
  (fun hs hg=>⟨cur.toList,⟨hl,.inr ⟨w.heap.size,es.length,cur,rfl,QK (Ko E _) h.fr.size,heap_alloc_new w _,QI _,hm,by simpa using hl,by rw[<-hl];exact Qq62⟩⟩,hk,hr.mono hs hg⟩)
 refine⟨_,h1,?_⟩;refine .own _ _ _ _ _ hn ?_ (fun _=> ?_)
 ·simp[St.gh,St.fu,cr]
 ·simp[St.gh,St.fu,cr]
theorem Ki(e:TypeId)(cells:Array Value):(newRow e cells).run P w= .ok ⟨w.heap.size,0,none⟩ (w.alloc (.cells cells e)):=rfl
theorem Eu(e:TypeId)(v:Value):(newVar e v).run P w= .ok ⟨w.heap.size,0,none⟩ (w.alloc (.cells v.cells e)):=rfl
theorem ZN(h:Rel E S a w L)(hn:nid<S.N){t:TypeId}{y:Operand}{y':bo}(ho:o.op= .box t y)(hy:bA y=some y')(he:exec Γ nid S (.box y')=some (x,wr)):Good P E S a w o x wr:=by
 simp only[exec]at he;split at he
 ·rename_i h1;obtain⟨rfl,rfl⟩:=bR he;have r:=((h.iw hy).cells (fun z hz=>QH.1 h1 z hz)).1
  obtain⟨L',h2,h3⟩:=h.WD hn t r;exact⟨_,_,L',_,by simp[execOp,ho,Instr.box,Eu],.inl rfl,h3,h2⟩
 ·cases he
theorem abe(h:Rel E S a w L)(hn:nid<S.N){t:TypeId}{z:List PV}(ho:o.op= .alloc t)(hz:tQ P t=some z)(he:exec Γ nid S (.alloc z)=some (x,wr)):Good P E S a w o x wr:=by
 simp only[exec]at he;obtain⟨rfl,rfl⟩:=bR he;obtain⟨i,v,hi,hv,hs,hr⟩:=Bq (P:=P) (w:=w) (M:=bs E S L) (G:=S.gh L) hz;obtain⟨L',h2,h3⟩:=h.WD hn t hr;exact⟨_,_,L',_,by simp[execOp,ho,Instr.alloc,zeroValue,typeInfo,hi,hv,Eu],.inl rfl,h3,h2⟩
theorem Gx(z:Array Value)(hz:0<z.size)(n:Nat):((Array.range (n*z.size)).map (z[· % z.size]!)).toList=(List.replicate n z.toList).flatten:=by
 apply List.ext_getElem?;intro i;have hfl:(List.replicate n z.toList).flatten.length=n*z.size:=by rw[p6 _ z.size (fun u hu=>by rw[(List.mem_replicate.1 hu).2];simp)];simp
 by_cases hi:i<n*z.size
 ·have hq:i / z.size<n:=by rw[Nat.div_lt_iff_lt_mul hz];exact hi
  have hr:i % z.size<z.size:=Nat.mod_lt _ hz;have:=xP (List.replicate n z.toList) z.size (i / z.size) z.toList (fun u hu=>by rw[(List.mem_replicate.1 hu).2];simp) (by rw[List.getElem?_replicate,Qr hq]) (i % z.size) hr
  have e:i / z.size*z.size+i % z.size=i:=by rw[Nat.mul_comm];exact Nat.div_add_mod i z.size
  rw[e]at this;rw[this];simp[hi,hr]
 ·rw[Qq72 (by simp;omega),Qq72 (by omega)]
theorem De{α:Type}:∀(es:List (List α)) (k i:Nat) (xs:List α),(∀u∈es,u.length=k)->xs.length=k->i<es.length->(es.set i xs).flatten=es.flatten.take (i*k)++xs++es.flatten.drop (i*k+xs.length)
 |[],_,_,_,_,_,h=>by simp at h
 |e::es,k,i,xs,hk,hx,hi=>by
  have he:e.length=k:=hk e (by simp)
  cases i with
  |zero=>
   simp only[List.set_cons_zero,List.flatten_cons,Nat.zero_mul,List.take_zero,List.nil_append,Nat.zero_add];rw[hx,<-he,List.drop_left]
  |succ i=>
   have:=De es k i xs (fun u hu=>hk u (by simp[hu])) hx (by simpa using hi)
   simp only[List.set_cons_succ,List.flatten_cons,this];have e1:(i+1)*k=e.length+i*k:=by rw[Qq73,he];omega
   rw[e1,List.take_append,List.take_of_length_le (show e.length<=e.length+i*k by omega),Nat.add_sub_cancel_left,Nat.add_assoc,List.drop_append,
    List.drop_eq_nil_of_le (show e.length<=e.length+(i*k+xs.length)by omega),Nat.add_sub_cancel_left]
   simp
theorem N2(k:Nat):∀(ps:List (Nat×bo)) (es es':List (List PV)),(∀u∈es,u.length=k)->tB S k es ps=some es'->
  qC S es.flatten (ps.map fun p=>(p.1*k,k,p.2))=some es'.flatten/\(∀u∈es',u.length=k)/\es'.length=es.length
 |[],es,es',hk,hf=>by simp only[tB,Qf]at hf;subst hf;exact⟨rfl,hk,rfl⟩
 |(i,y)::ps,es,es',hk,hf=>by
  simp only[tB]at hf;split at hf
  ·rename_i hb;obtain⟨h1,h2,h3⟩:=hb
   have hk':∀u∈es.set i (y.val S).cells,u.length=k:=by
    intro u hu;rcases List.mem_or_eq_of_mem_set hu with hu|hu
    ·exact hk u hu
    ·rw[hu,h1]
   obtain⟨h4,h5,h6⟩:=N2 k ps _ _ hk' hf;refine⟨?_,h5,by simpa using h6⟩
   have hle:i*k+k<=es.flatten.length:=by
    rw[p6 es k hk];have:=Qq63 k (show i+1<=es.length by omega)
    rw[Qq73]at this;omega
   simp only[QD,qC];rw[Qr ⟨h1,hle,h3⟩];rw[De es k i _ hk h1 h2]at h4;exact h4
  ·cases hf
theorem Oa{k:Nat}:∀{parts:List (Nat×Operand)} {ps:List (Nat×bo)},(parts.mapM fun p=>(bA p.2).map fun y=>(p.1,y))=some ps->vr (fun j=>some (j*k,k)) parts=some (ps.map fun p=>(p.1*k,k,p.2))
 |[],ps,h=>by simp at h;subst h;simp[vr]
 |p::parts,ps,h=>by
  simp only[Qq75,Qd,Qc,Option.pure_def,Qf,Qb]at h;obtain⟨q,⟨y,hy,rfl⟩,qs,hqs,rfl⟩:=h;have ih:=Oa (k:=k) hqs;unfold vr at ih ⊢;simp only[Qq75,ih];simp[hy]
theorem vI{M:Nat->Prop}{G:Gh}{z:List PV}{vs:List Value}(h:bf w M G z vs):∀n,bf w M G (List.replicate n z).flatten (List.replicate n vs).flatten
 |0=>by simpa using bf.nil
 |n+1=>by simp only[List.replicate_succ,List.flatten_cons];exact h.append (vI h n)
theorem bg.TZ{M:Nat->Prop}{G G':Gh}{y:PV}{v:Value}(h:bg w M G y v)(hc:y.closed=true):bg w M G' y v:=by
 cases h with
 |any=>simp[PV.closed]at hc
 |undef=>simp[PV.closed]at hc
 |int=>exact .int _ _
 |bool=>exact .bool _
 |gH=>first|exact .gH _|simp[PV.closed]at hc
 |str=>exact .str _
 |kJ=>exact .kJ
 |dR=>exact .dR
 |bG f cs vs hl h=>
  cases cs with
  |nil=>exact .bG f [] vs hl (fun i x v hx _=>by simp at hx)
  |cons=>simp[PV.closed]at hc
 |jk=>simp[PV.closed]at hc
 |agg=>simp[PV.closed]at hc
 |dO=>simp[PV.closed]at hc
 |ptr=>simp[PV.closed]at hc
 |ref cs ad vs hl hcell h=>exact .ref cs ad vs hl hcell h
 |sl es ad c k vs hk hl hcell h hn hm=>exact .sl es ad c k vs hk hl hcell h hn hm
 |slnil=>exact .slnil
 |own=>simp[PV.closed]at hc
 |eQ=>simp[PV.closed]at hc
 |view=>simp[PV.closed]at hc
 |iK ks us b es ck hb hMb hk hv h1 h2=>exact .iK ks us b es ck hb hMb hk hv h1 h2
theorem acY(h:Rel E S a w L){t:TypeId}{y:Operand}{y':bo}(ho:o.op= .box t y)(hy:bA y=some y')(he:exec Γ nid S (.Dm y')=some (x,wr)):Good P E S a w o x wr:=by
 simp only[exec]at he;split at he
 ·rename_i h1;rw[Qm]at h1;obtain⟨rfl,rfl⟩:=bR he;have r:=((h.iw hy).cells (fun z hz=>QH.1 h1.1 z hz)).1
  obtain⟨h2,hs1⟩:=h.grow (w':=w.alloc (.cells (a.eval y).cells t)) rfl rfl rfl (by simp) (fun b hb=>Below.heap_alloc _ _ _ hb)
  refine⟨.value (.pointer (some ⟨w.heap.size,0,none⟩)),_,L,_,by simp[execOp,ho,Instr.box,Eu],.inl rfl,?_,h2⟩
  have r2:bf (w.alloc (.cells (a.eval y).cells t)) (bs E S L) dj (y'.val S).cells (a.eval y).cells.toList:=
   ⟨r.1,fun i0 z v0 hz hv0=>((r.2 i0 z v0 hz hv0).mono hs1 (Gh.le.refl _)).TZ (QH.1 h1.2 z (Q8 hz))⟩
  refine .ref _ _ (a.eval y).cells.toList r2.1 (fun q u hu=>⟨?_,fun hm=> ?_⟩) r2.2
  ·rw[add_mid];exact pz (heap_alloc_new w _) (by simpa using hu)
  ·rcases hm with⟨id,hid,hl,hb⟩|hm
   ·have:=((h.obj id hid).xT hl hb).1;exact absurd this (Nat.lt_irrefl _)
   ·have h8:=E.hX _ hm;have h9:=h.fr.size;simp only at h8;omega
 ·cases he
theorem bg.nz{M:Nat->Prop}{G:Gh}{y:PV}{v:Value}(h:bg w M G y v):bg w M G (nz y) v:=by
 cases h with
 |dR=>exact .slnil
 |any=>exact .any _
 |undef=>exact .undef
 |int=>exact .int _ _
 |bool=>exact .bool _
 |gH=>exact .gH _
 |str=>exact .str _
 |kJ=>exact .kJ
 |bG f cs vs hl h=>exact .bG f cs vs hl h
 |jk f cs vs hl h=>exact .jk f cs vs hl h
 |agg cs vs hl h=>exact .agg cs vs hl h
 |dO cs vs hl h=>exact .dO cs vs hl h
 |ptr _ _ _ _ h1 h2 h3=>exact .ptr _ _ _ _ h1 h2 h3
 |ref cs ad vs hl hc h=>exact .ref cs ad vs hl hc h
 |sl es ad c k vs hk hl hc h hn hm=>exact .sl es ad c k vs hk hl hc h hn hm
 |slnil=>exact .slnil
 |own _ _ _ _ _ h1 h2 h3=>exact .own _ _ _ _ _ h1 h2 h3
 |eQ _ _ _ _ _ _ h1 h2 h3=>exact .eQ _ _ _ _ _ _ h1 h2 h3
 |view _ _ _ _ _ _ _ h1 h2 h3=>exact .view _ _ _ _ _ _ _ h1 h2 h3
 |iK ks us b es ck hb hMb hk hv h1 h2=>exact .iK ks us b es ck hb hMb hk hv h1 h2
theorem bf.nz{M:Nat->Prop}{G:Gh}{cs:List PV}{vs:List Value}(h:bf w M G cs vs):bf w M G (cs.map Go.TQ.nz) vs:=
 ⟨by simp[h.1],fun i x v hx hv=>by
  rw[QT,Qb]at hx;obtain⟨y,hy,rfl⟩:=hx
  exact(h.2 i y v hy hv).nz⟩
theorem IB(es:List (List PV)):(BG es).flatten=es.flatten.map nz:=by
 simp[BG,List.map_flatten]
theorem UR(es:List (List PV)):(BG es).length=es.length:=by simp[BG]
theorem aaP{es:List (List PV)}{k:Nat}(h:∀u∈es,u.length=k):∀u∈BG es,u.length=k:=by
 intro u hu;simp only[BG,QP]at hu;obtain⟨e,he,rfl⟩:=hu;simpa using h e he
theorem Ww{y:PV}(h:y.closed=true):(nz y).closed=true:=by
 cases y<;>simp_all [nz,PV.closed]
theorem aee(h:Rel E S a w L)(hn:nid<S.N){t e:TypeId}{len:Nat}{parts:Array (Nat×Operand)}{i:TypeInfo}{z:List PV}{ps:List (Nat×bo)}{mb:Bool}(ho:o.op= .buildSlice t len parts)(ht:P.underlying t=some (.slice e))
  (hi:P.info? e=some i) (hz:tQ P e=some z) (hps:(parts.toList.mapM fun p=>(bA p.2).map fun y=>(p.1,y))=some ps) (hsm:len*i.size<=16777216) (h0:0<i.size) (hlen:len<=maxLen)
  (he:exec Γ nid S (.LL mb e i.size (List.replicate len z) ps)=some (x,wr)):Good P E S a w o x wr:=by
 simp only[exec]at he;split at he
 case h_2=>cases he
 rename_i es hf;obtain⟨i',v,hi',hv,hs,hr⟩:=Bq (P:=P) (w:=w) (M:=bs E S L) (G:=S.gh L) hz;rw[hi]at hi';injection hi' with hi'
 subst hi';have hzl:z.length=i.size:=by have:=hr.1;simp at this;omega
 obtain⟨h3,h4,h5⟩:=N2 i.size ps _ _ (fun u hu=>by rw[(List.mem_replicate.1 hu).2,hzl]) hf
 have hr0:bf w (bs E S L) (S.gh L) (List.replicate len z).flatten ((Array.range (len*i.size)).map (v.cells[· % v.cells.size]!)).toList:=by
  rw[<-hs,Gx v.cells (by omega)]
  exact vI hr len
 obtain⟨cells,hfl,hr'⟩:=HK h _ _ _ _ _ _ (Oa hps) hr0 h3;have hle:(BG es).length=len:=by rw[UR,h5];simp
 replace h4:=aaP h4;replace hr':=hr'.nz;rw[<-IB]at hr'
 have hrun:(execOp a.eval o).run P w= .ok (.value (.slice (some ⟨w.heap.size,0,none⟩) len len)) (w.alloc (.cells cells e)):=by
  have hfl':Instr.fill (fun j=>some (j*i.size,i.size)) ((Array.range (len*i.size)).map (v.cells[· % v.cells.size]!)) (parts.map fun p=>(p.1,a.eval p.2)).toList=some cells:=by simpa using hfl
  by_cases hl0:len*i.size=0
  ·simp[execOp,ho,Instr.buildSlice,run_underlying ht,sizeOf,typeInfo,hi,hl0]at hfl' ⊢;have hle0:len=0:=by rcases Nat.mul_eq_zero.1 hl0 with h|h<;>omega
   subst hle0;have hnil:∀f:Nat->Value,Array.map f (Array.range 0)=#[]:=fun f=>by simp
   rw[hnil]at hfl' ⊢;rw[show Instr.fill (fun i_1=>some (i_1*i.size,i.size)) #[] (List.map (fun x=>(x.fst,a.eval x.snd)) parts.toList)=some cells from hfl']
   simp[Ki]
  ·simp[execOp,ho,Instr.buildSlice,run_underlying ht,sizeOf,typeInfo,zeroValue,hi,hv,hl0,Nat.not_lt.2 hsm]at hfl' ⊢;rw[show Instr.fill (fun i_1=>some (i_1*i.size,i.size)) (Array.map (fun x=>v.cells[x % v.cells.size]!) (Array.range (len*i.size))) (List.map (fun x=>(x.fst,a.eval x.snd)) parts.toList)=some cells from hfl']
   simp[Ki]
 split at he
 ·rename_i hcl;obtain⟨rfl,rfl⟩:=bR he;obtain⟨h1,hs1⟩:=h.grow (w':=w.alloc (.cells cells e)) rfl rfl rfl (by simp) (fun b hb=>Below.heap_alloc _ _ _ hb)
  refine⟨_,_,L,_,hrun,.inl rfl,?_,h1⟩
  have hall:∀y∈(BG es).flatten,y.closed=true:=fun y hy=>by
   rw[IB]at hy;obtain⟨y0,hy0,rfl⟩:=QP.1 hy;obtain⟨u,hu,hyu⟩:=List.mem_flatten.1 hy0;exact Ww (QH.1 (QH.1 hcl.2 u hu) y0 hyu)
  have hr2:bf (w.alloc (.cells cells e)) (bs E S L) dj (BG es).flatten cells.toList:=
   ⟨hr'.1,fun i0 y v0 hy hv0=>((hr'.2 i0 y v0 hy hv0).mono hs1 (Gh.le.refl _)).TZ (hall y (Q8 hy))⟩
  rw[<-hle];refine .sl (BG es) _ _ i.size cells.toList h4 hr2.1 (fun q u hu=>⟨?_,fun hm=> ?_⟩) hr2.2 (QI _) (by omega)
  ·rw[add_mid];exact pz (heap_alloc_new w _) (by simpa using hu)
  ·rcases hm with⟨id,hid,hl,hb⟩|hm
   ·have:=((h.obj id hid).xT hl hb).1;exact absurd this (Nat.lt_irrefl _)
   ·have h8:=E.hX _ hm;have h9:=h.fr.size;simp only at h8;omega
 ·obtain⟨rfl,rfl⟩:=bR he;obtain⟨L',h6,h7⟩:=h.newRow (e:=e) hn h4 (by omega) hr'
  rw[hle]at h7;exact⟨_,_,L',_,hrun,.inl rfl,h7,h6⟩
theorem ad9(h:Rel E S a w L)(hn:nid<S.N){t e:TypeId}{y z:Operand}{y' z':bo}{i:TypeInfo}{zc:List PV}(ho:o.op= .makeSlice t y z)(ht:P.underlying t=some (.slice e))(hi:P.info? e=some i)(h0:0<i.size)(hz:tQ P e=some zc)
  (hy:bA y=some y') (hz':bA z=some z') (he:exec Γ nid S (.KR e i.size i.bytes zc y' z')=some (x,wr)):Good P E S a w o x wr:=by
 have ry:=h.iw hy;have rz:=h.iw hz';simp only[exec]at he;split at he
 ·rename_i k n k' m e1 e2;split at he
  ·rename_i hb;obtain⟨rfl,hn0,hby,hml⟩:=hb;obtain⟨rfl,rfl⟩:=bR he;rw[e1]at ry;rw[e2]at rz;have hv:=ry.fG;have hu:=rz.fG;obtain⟨i',v,hi',hv0,hs,hr⟩:=Bq (P:=P) (w:=w) (M:=bs E S L) (G:=S.gh L) hz;rw[hi]at hi';injection hi' with hi'
   subst hi';have hzl:zc.length=i.size:=by have:=hr.1;simp at this;omega
   have hr0:bf w (bs E S L) (S.gh L) (List.replicate n.toNat (zc.map nz)).flatten (madeCells v.cells (n.toNat*i.size)).toList:=by
    unfold madeCells;rw[<-hs,Gx v.cells (by omega)]
    exact vI hr.nz _
   obtain⟨L',h6,h7⟩:=h.newRow (e:=e) (k:=i.size) hn (fun u hu=>by rw[(List.mem_replicate.1 hu).2,QC,hzl]) (by simpa using hml) hr0
   simp only[List.length_replicate]at h7;refine⟨_,_,L',_,?_,.inl rfl,h7,h6⟩
   have hbb:(i.bytes:Int)*n<=281474976710656:=by
    have h1:((n.toNat*i.bytes:Nat):Int)<=140737488355328:=by omega
    have h2:((n.toNat:Nat):Int)=n:=Int.toNat_of_nonneg hn0;rw[Int.natCast_mul,h2,Int.mul_comm]at h1;omega
   have hm63:n<=9223372036854775807:=by simp only[maxLen]at hml;omega
   have:=run_make (P:=P) w t e i v ht hi hv0 k k' n n hn0 (Int.le_refl _) hbb hm63;simp only[execOp,ho,hv,hu,Sem.run_bind,this,Result.andThen_ok,Sem.run_pure]
  ·cases he
 ·cases he
theorem F5{t:TypeId}{y z:Operand}{b off:Nat}{cur:Array Value}{T:TypeId}{i:TypeInfo}(ho:o.op= .store t y z)(hi:P.info? t=some i)(hv:a.eval y= .pointer (some ⟨b,off,none⟩))(hh:w.heap[b]?=some (.cells cur T (0,0)))
  (hs:(a.eval z).cells.size=i.size) (hle:off+i.size<=cur.size) (h1:∀u∈(a.eval z).cells.toList,u.oneCell'=true):
  (execOp a.eval o).run P w= .ok .skip (w.setRow b (cur.toList.take off++(a.eval z).cells.toList++cur.toList.drop (off+i.size)).toArray):=by
 have:=run_storeCells_at (P:=P) b off T (a.eval z).cells.toList 0 cur w hh (by simp;omega) h1
 simp only[Nat.add_zero,Array.length_toList,hs]at this;simp[execOp,ho,hv,Instr.storeAt,Instr.sureAddr,storeVar,sizeOf,typeInfo,hi,hs,this]
theorem Um{α:Type}(F c xs:List α)(k J off n:Nat)(hc:c.length=k)(hjk:J+k<=F.length)(hx:xs.length=n)(hle:off+n<=k)(hel:∀q,q<k->F[J+q]?=c[q]?):
  F.take J++(c.take off++xs++c.drop (off+n))++F.drop (J+k)=F.take (J+off)++xs++F.drop (J+off+n):=by
 have h1:F.take (J+off)=F.take J++c.take off:=by
  apply List.ext_getElem?;intro q
  by_cases q1:q<J
  ·rw[List.getElem?_append_left (by simp;omega),Qq68,Qr (by omega),Qq68,Qr q1]
  ·rw[List.getElem?_append_right (by simp;omega),Qq68,Qq68]
   have e:(F.take J).length=J:=by simp;omega
   rw[e]
   by_cases q2:q<J+off
   ·rw[Qr q2,Qr (by omega),<-hel _ (by omega)]
    congr 1;omega
   ·rw[Qs q2,Qs (by omega)]
 have h2:F.drop (J+off+n)=c.drop (off+n)++F.drop (J+k):=by
  apply List.ext_getElem?;intro q;rw[List.getElem?_drop]
  by_cases q1:q<k - (off+n)
  ·rw[List.getElem?_append_left (by simp;omega),List.getElem?_drop,<-hel _ (by omega)]
   congr 1;omega
  ·rw[List.getElem?_append_right (by simp;omega),List.getElem?_drop]
   have e:(c.drop (off+n)).length=k - (off+n):=by simp;omega
   rw[e];congr 1;omega
 rw[h1,h2];simp[QL]
theorem Is{α:Type}(cur xs:List α)(p n m:Nat)(hx:xs.length=n)(h1:p+n<=m)(h2:m<=cur.length):
  (cur.take p++xs++cur.drop (p+n)).take m=(cur.take m).take p++xs++(cur.take m).drop (p+n):=by
 rw[List.take_take,Nat.min_eq_left (by omega),List.take_append,List.take_of_length_le (by simp;omega)]
 congr 1;have e:(cur.take p++xs).length=p+n:=by simp;omega
 rw[e,List.drop_take]
theorem aa9(h:Rel E S a w L){t:TypeId}{y z:Operand}{y' z':bo}{i:TypeInfo}(ho:o.op= .store t y z)(hi:P.info? t=some i)(hy:bA y=some y')(hz:bA z=some z')
  (he:exec Γ nid S (.store i.size y' z')=some (x,wr)):Good P E S a w o x wr:=by
 have r:=h.iw hy;simp only[exec]at he;split at he
 ·rename_i hb;obtain⟨hl,h1⟩:=hb;have rz:=(h.iw hz).cells (fun u hu=>QH.1 h1 u hu)
  have hs:(a.eval z).cells.size=i.size:=by have:=rz.1.1;simp at this;omega
  split at he
  ·rename_i id ao off e;rw[e]at r;split at he
   ·rename_i hver;split at he
    ·rename_i cs hc;split at he
     ·rename_i hle;obtain⟨rfl,rfl⟩:=bR he;obtain⟨hN,_⟩:=r.sn (show(S.gh L).V id=ao from hver)
      obtain⟨b,hv,hL⟩:=h.sZ r hver hc;obtain⟨b',cur,T,hL',hh,hr,hE⟩:=h.rY hN hc;rw[hL]at hL';simp only[Value.pointer.injEq,Qf,Addr.mk.injEq]at hL';obtain⟨rfl,_⟩:=hL';have hcl:cur.size=cs.length:=by have:=hr.1;simpa using this
      have hrun:=F5 (P:=P) ho hi hv hh hs (by omega) rz.2
      obtain⟨h2,hs2,hg⟩:=h.sW (w':=w.setRow b (cur.toList.take off++(a.eval z).cells.toList++cur.toList.drop (off+i.size)).toArray) hN ⟨ao,.box (iE cs off (z'.val S).cells)⟩ (L id) (.inl ⟨hver.symm,rfl,by rw[hc];rfl⟩) rfl rfl rfl (by simp)
       (fun k hk hne=>setRow_other w b k _ (fun ek=>hne (by rw[hc];rfl) (by rw[hL,ek];rfl)))
       (fun k _ hk=> .inl ⟨by rw[hc];rfl,hk⟩)
       (fun hs2 hg=>⟨b,_,T,hL,setRow_heap w b cur _ T _ hh,hE,by
        have:=(hr.iE rz.1 off).mono hs2 hg
        simpa[hs]using this⟩)
      exact⟨_,_,_,undef,hrun,.inr ⟨rfl,rfl⟩,.undef,h2⟩
     ·cases he
    ·cases he
   ·cases he
  ·rename_i id ao k j off e;rw[e]at r;have rz1:=rz.1.nz;have hl1:((z'.val S).cells.map nz).length=i.size:=by simpa using hl
   split at he
   ·rename_i hver;split at he
    ·rename_i e0 k' es hc;split at he
     ·rename_i hk;subst hk;split at he
      ·rename_i c hcj;split at he
       ·rename_i hle;obtain⟨rfl,rfl⟩:=bR he;obtain⟨hN,hv⟩:=r.JI (show(S.gh L).V id=ao from hver)
        obtain⟨vs,hown,hk,hr⟩:=h.kv hN hc;have hj:j<es.length:=(Qw.1 hcj).1;rcases hown.2 with⟨hL,h0⟩|⟨g,cap,cur,hL,hb1,hh,hnc,hcm,hcs,htake⟩
        ·omega
        rw[show(S.gh L).L id=L id from rfl,hL]at hv
        simp only[cq,Qe]at hv;have hck:c.length=k:=hk c (Q8 hcj)
        have hjk:j*k+k<=es.length*k:=by
         have:=Qq63 k (show j+1<=es.length by omega)
         rw[Qq73]at this;omega
        have hvl:vs.length=es.length*k:=hown.1;have hcapk:es.length*k<=cap*k:=Qq63 _ hnc;have hrun:=F5 (P:=P) ho hi hv hh hs (by omega) rz.2
        have hsl:(iE c off ((z'.val S).cells.map nz)).length=k:=by simp[iE,hl1];omega
        have hk2:∀u∈es.set j (iE c off ((z'.val S).cells.map nz)),u.length=k:=by
         intro u hu;rcases List.mem_or_eq_of_mem_set hu with hu|hu
         ·exact hk u hu
         ·rw[hu,hsl]
        have hz2:((z'.val S).cells.map nz).length=(a.eval z).cells.toList.length:=rz1.1.symm
        have hfl:(es.set j (iE c off ((z'.val S).cells.map nz))).flatten=iE es.flatten (j*k+off) ((z'.val S).cells.map nz):=by
         rw[De es k j _ hk hsl hj,hsl];unfold iE;rw[hl1];exact Um es.flatten c ((z'.val S).cells.map nz) k (j*k) off i.size hck (by rw[p6 es k hk];exact hjk) hl1 (by omega) (xP es k j c hk hcj)
        have hset:(w.setRow g (cur.toList.take (j*k+off)++(a.eval z).cells.toList++cur.toList.drop (j*k+off+i.size)).toArray).ownsRow (gp E (L id)) e0 k (L id) (es.set j (iE c off ((z'.val S).cells.map nz))).length (vs.take (j*k+off)++(a.eval z).cells.toList++vs.drop (j*k+off+i.size)):=by
         refine⟨by simp[hvl,hs];omega,.inr ⟨g,cap,_,by rw[hL];simp,hb1,setRow_heap w g cur _ e0 _ hh,by simpa using hnc,hcm,by simp[hcs,hs];omega,?_⟩⟩
         simp only[QY];rw[<-htake];simpa using Is cur.toList (a.eval z).cells.toList (j*k+off) i.size (es.length*k) (by simpa using hs) (by omega) (by simp[hcs];omega)
        obtain⟨h2,hs2,hg⟩:=h.sW (w':=w.setRow g (cur.toList.take (j*k+off)++(a.eval z).cells.toList++cur.toList.drop (j*k+off+i.size)).toArray) hN ⟨ao,.row e0 k (es.set j (iE c off ((z'.val S).cells.map nz)))⟩ (L id) (.inl ⟨hver.symm,rfl,by rw[hc];rfl⟩) rfl rfl rfl (by simp)
         (fun q hq hne=>setRow_other w g q _ (fun ek=>hne (by rw[hc];rfl) (by rw[hL,ek];rfl)))
         (fun q _ hq=> .inl ⟨by rw[hc];rfl,hq⟩)
         (fun hs2 hg=>⟨_,hset,hk2,by
          rw[hfl];have:=(hr.iE rz1 (j*k+off)).mono hs2 hg
          simpa[hs]using this⟩)
        exact⟨_,_,_,undef,hrun,.inr ⟨rfl,rfl⟩,.undef,h2⟩
       ·cases he
      ·cases he
     ·cases he
    ·cases he
   ·cases he
  ·cases he
 ·cases he
end
end
section
open Go.RowKit
section
variable {P : Program} {E : En} {S : St} {a : Act} {w : World} {L : Nat -> Value} {o : Oper} {x : PV} {wr : Option (Nat × fT)} {Γ : ow} {nid : Nat}
theorem Bi(h:Rel E S a w L){y:Option Operand}{y':Option bo}(hy:y.mapM bA=some y'){d n:Int}(hn:sy S y' d=some n):
  (y=none/\n=d)\/∃z k,y=some z/\a.eval z= .int k n:=by
 cases y with
 |none=>
  simp at hy;subst hy;simp only[sy,Qf]at hn;exact .inl ⟨rfl,hn.symm⟩
 |some z=>
  simp only[Option.mapM_some,Option.map_eq_map,Qb]at hy;obtain⟨z',hz,rfl⟩:=hy;have r:=h.iw hz;simp only[sy]at hn;split at hn
  ·rename_i k m e;rw[e]at r;injection hn with hn
   subst hn;exact .inr ⟨z,k,rfl,r.fG⟩
  ·cases hn
theorem tx{α:Type}(k:Nat):∀(m:Nat) (fs:List (List α)),(∀u∈fs,u.length=k)->(fs.take m).flatten=fs.flatten.take (m*k)
 |0,fs,_=>by simp
 |m+1,[],_=>by simp
 |m+1,u::us,hf=>by
  have hu:u.length=k:=hf u (by simp)
  simp only[List.take_succ_cons,List.flatten_cons,tx k m us (fun q hq=>hf q (by simp[hq]))]
  rw[Qq73,Nat.one_mul,Nat.add_comm,<-hu,List.take_length_add_append]
theorem xO{α:Type}(k:Nat):∀(m:Nat) (fs:List (List α)),(∀u∈fs,u.length=k)->(fs.drop m).flatten=fs.flatten.drop (m*k)
 |0,fs,_=>by simp
 |m+1,[],_=>by simp
 |m+1,u::us,hf=>by
  have hu:u.length=k:=hf u (by simp)
  simp only[List.drop_succ_cons,List.flatten_cons,xO k m us (fun q hq=>hf q (by simp[hq]))]
  rw[Qq73,Nat.one_mul,Nat.add_comm,<-hu,List.drop_length_add_append]
theorem Hr{t e:TypeId}{y:Operand}{lo hi:Option Operand}{i:TypeInfo}{ad:Option Addr}{n c:Nat}{l h:Int}(ho:o.op= .slice t y lo hi none)(ht:P.underlying t=some (.slice e))(hi':P.info? e=some i)
  (hv:a.eval y= .slice ad n c) (hlo:(lo=none/\l=0)\/∃z k,lo=some z/\a.eval z= .int k l) (hhi:(hi=none/\h=n)\/∃z k,hi=some z/\a.eval z= .int k h) (h0:0<=l) (h1:l<=h) (h2:h<=n) (h3:n<=c):
  (execOp a.eval o).run P w= .ok (.value (.slice (if c=l.toNat then ad else ad.map (·.add (l.toNat*i.size))) (h.toNat - l.toNat) (c - l.toNat))) w:=by
 have e1:0<=h:=by omega
 have e2:h<=(c:Int):=by omega
 have e3:l<=((h.toNat:Nat):Int):=by omega
 rcases hlo with⟨rfl,rfl⟩|⟨z,k,rfl,hz⟩<;>rcases hhi with⟨rfl,rfl⟩|⟨z2,k2,rfl,hz2⟩<;>
  simp[execOp,Instr.sliceAt,Instr.slice,run_underlying ht,Instr.sliceBounds,Instr.sliceBound,asIntOf,sizeOf,typeInfo, *]<;>omega
theorem ad7(h:Rel E S a w L){t e:TypeId}{y:Operand}{lo hi:Option Operand}{y':bo}{lo' hi':Option bo}{i:TypeInfo}(ho:o.op= .slice t y lo hi none)(ht:P.underlying t=some (.slice e))(hi0:P.info? e=some i)
  (hy:bA y=some y') (hlo:lo.mapM bA=some lo') (hhi:hi.mapM bA=some hi') (he:exec Γ nid S (.FY i.size y' lo' hi')=some (x,wr)):Good P E S a w o x wr:=by
 have r:=h.iw hy;simp only[exec]at he;split at he
 ·rename_i es e0;rw[e0]at r;split at he
  ·rename_i hall;have hall':∀u∈es,u.length=i.size:=fun u hu=>by have:=QH.1 hall u hu;simpa using this
   split at he
   ·rename_i l hh el eh;split at he
    ·rename_i hb;obtain⟨hb0,hb1,hb2⟩:=hb;obtain⟨rfl,rfl⟩:=bR he;have hl:=Bi h hlo (d:=0) (n:=l) (by unfold sy;exact el)
     have hh':=Bi h hhi (d:=(es.length:Int)) (n:=hh) (by unfold sy;exact eh)
     have hlen:((es.take hh.toNat).drop l.toNat).length=hh.toNat - l.toNat:=by simp;omega
     rcases r.DA with⟨hv,h0⟩|⟨ad,c,k,vs,hv,hk,hr,hc,hn,hm⟩
     ·subst h0;refine Good.pure h (Hr (n:=0) ho ht hi0 hv hl (by simpa using hh') hb0 hb1 (by simpa using hb2) (QI _)) ?_
      have e1:hh=0:=by simp at hb2;omega
      have e2:l=0:=by omega
      subst e1 e2;simpa using bg.slnil
     ·refine Good.pure h (Hr ho ht hi0 hv hl hh' hb0 hb1 hb2 hn) ?_;rw[<-hlen];have hkk:∀u∈(es.take hh.toNat).drop l.toNat,u.length=i.size:=fun u hu=>hall' u (Q1 (Q2 hu))
      have hfl:((es.take hh.toNat).drop l.toNat).flatten=(es.flatten.take (hh.toNat*i.size)).drop (l.toNat*i.size):=by
       have t1:∀(m:Nat) (fs:List (List PV)),(∀u∈fs,u.length=i.size)->(fs.take m).flatten=fs.flatten.take (m*i.size):=by
        intro m
        induction m with
        |zero=>intro fs _;simp
        |succ m ih=>
         intro fs hf
         cases fs with
         |nil=>simp
         |cons u us=>
          have hu:u.length=i.size:=hf u (by simp)
          simp only[List.take_succ_cons,List.flatten_cons,ih us (fun q hq=>hf q (by simp[hq]))]
          rw[Qq73,Nat.one_mul,Nat.add_comm,<-hu,List.take_length_add_append]
       have t2:∀(m:Nat) (fs:List (List PV)),(∀u∈fs,u.length=i.size)->(fs.drop m).flatten=fs.flatten.drop (m*i.size):=by
        intro m
        induction m with
        |zero=>intro fs _;simp
        |succ m ih=>
         intro fs hf
         cases fs with
         |nil=>simp
         |cons u us=>
          have hu:u.length=i.size:=hf u (by simp)
          simp only[List.drop_succ_cons,List.flatten_cons,ih us (fun q hq=>hf q (by simp[hq]))]
          rw[Qq73,Nat.one_mul,Nat.add_comm,<-hu,List.drop_length_add_append]
       rw[t2 _ _ (fun u hu=>hall' u (Q1 hu)),t1 _ _ hall']
      have hr2:=(hr.take (hh.toNat*i.size)).drop (l.toNat*i.size);rw[<-hfl]at hr2
      by_cases hcl:c=l.toNat
      ·have hnil:(es.take hh.toNat).drop l.toNat=[]:=Qq67 (by rw[hlen];omega)
       rw[Qr hcl,hnil];exact .sl [] ad _ i.size [] (by simp) (by simp) (fun j u hu=>by simp at hu) (fun j p u hp=>by simp at hp) (QS _) (by omega)
      ·rw[Qs hcl];simp only[Qe];refine .sl _ _ _ i.size _ hkk hr2.1 (fun j u hu=> ?_) hr2.2 (by rw[hlen];omega) (by omega)
       rw[add_add,G7];have h4:=gQ hu;rw[Qq68]at h4;split at h4
       ·exact hc _ u h4
       ·cases h4
    ·cases he
   ·cases he
  ·cases he
 ·rename_i id ao e0;rw[e0]at r;split at he
  ·rename_i hver;split at he
   ·rename_i e1 k' es hcc;split at he
    ·rename_i hkk;subst hkk;split at he
     ·rename_i l hh el eh;split at he
      ·rename_i hb;obtain⟨hb0,hb1,hb2⟩:=hb;obtain⟨rfl,rfl⟩:=bR he;obtain⟨hN,hv⟩:=r.mK (show(S.gh L).V id=ao from hver)
       obtain⟨vs,hown,hk,hr⟩:=h.kv hN hcc;have hl:=Bi h hlo (d:=0) (n:=l) el;have hh':=Bi h hhi (d:=(es.length:Int)) (n:=hh) eh
       have hL:∃ad c,L id= .slice ad es.length c/\es.length<=c:=by
        rcases hown.2 with⟨hL,h0⟩|⟨g,cap,cur,hL,_,_,hnc,_⟩
        ·exact⟨none,0,by rw[hL,h0],by omega⟩
        ·exact⟨_,cap,hL,hnc⟩
       obtain⟨ad,c,hL,hc⟩:=hL;rw[show(S.gh L).L id=L id from rfl,hL]at hv
       refine Good.pure h (Hr ho ht hi0 hv hl hh' hb0 hb1 hb2 hc) ?_;refine .view _ _ _ _ _ _ _ hN (Nat.le_of_eq hver.symm) (fun _=>⟨ad,es.length,c,hL,by omega,hc,rfl,?_⟩)
       by_cases h0:c=l.toNat
       ·rw[Qr h0]
        by_cases h1:l.toNat=0
        ·right;rw[h1];cases ad<;>simp[Addr.add]
        ·left;exact⟨by omega,h1,fun e=>e⟩
       ·rw[Qs h0];right;rfl
      ·cases he
     ·cases he
    ·cases he
   ·cases he
  ·cases he
 ·rename_i id ao k0 lo0 n0 e0;rw[e0]at r;split at he
  ·rename_i hver;split at he
   ·rename_i e1 k' es hcc;split at he
    ·rename_i hkk;obtain⟨hk1,hk2⟩:=hkk;subst hk2;split at he
     ·rename_i l hh el eh;split at he
      ·rename_i hb;obtain⟨hb0,hb1,hb2⟩:=hb;obtain⟨rfl,rfl⟩:=bR he;obtain⟨hN,ad,c,hv,a0,m0,c0,hL,q1,q2,q3,q4⟩:=r.yy (show(S.gh L).V id=ao from hver)
       have hl:=Bi h hlo (d:=0) (n:=l) el;have hh':=Bi h hhi (d:=(n0:Int)) (n:=hh) eh;refine Good.pure h (Hr ho ht hi0 hv hl hh' hb0 hb1 hb2 (by omega)) ?_
       refine .view _ _ _ _ _ _ _ hN (Nat.le_of_eq hver.symm) (fun _=>⟨a0,m0,c0,hL,by omega,q2,by omega,?_⟩)
       by_cases h0:c=l.toNat
       ·rw[Qr h0]
        by_cases h1:lo0+l.toNat=0
        ·right;rcases q4 with q4|q4
         ·omega
         ·rw[q4];have e1:lo0=0:=by omega
          have e2:l.toNat=0:=by omega
          rw[e1,e2]
        ·left;refine⟨by omega,h1,fun e=> ?_⟩
         rcases q4 with q4|q4
         ·exact q4.2.2 e
         ·rw[q4]at e;cases a0<;>first|rfl|cases e
       ·rw[Qs h0];rcases q4 with q4|q4
        ·left;refine⟨by omega,by omega,fun e=>q4.2.2 ?_⟩
         cases ad<;>first|rfl|cases e
        ·right;rw[q4];cases a0<;>simp[add_add,Qq73]
      ·cases he
     ·cases he
    ·cases he
   ·cases he
  ·cases he
 ·cases he
theorem H3{base:Nat}{t ty e:TypeId}{i:TypeInfo}{size:Nat}(ht:P.underlying t=some (.slice e))(hi:P.info? e=some i)
  {v:Value} {n:Nat} {xs:List Value} (hown:w.ownsRow base e size v n xs) (c:Nat):(Builtin.append_ #[t,t] ty #[v,.slice none 0 c]).run P w= .ok v w:=by
 rcases hown.2 with⟨rfl,rfl⟩|⟨g,cap,cur,rfl,_,_,hnc,_⟩
 ·simp[Builtin.append_,run_underlying ht,sizeOf,typeInfo,hi,Builtin.lenOf,Builtin.firstCells]
 ·simp[Builtin.append_,run_underlying ht,sizeOf,typeInfo,hi,Builtin.lenOf,Builtin.firstCells,hnc,storeCells]
theorem Rel.IM(h:Rel E S a w L){y:PV}{v:Value}{es:List (List PV)}(r:bg w (bs E S L) (S.gh L) y v)(he:kG S y=some es):
  (v= .slice none 0 0/\es=[])\/∃(ad:Addr) (c:Nat) (vs:List Value),v= .slice (some ad) es.length c/\bf w (bs E S L) (S.gh L) es.flatten vs/\(∀(i:Nat) (u:Value),vs[i]?=some u->w.cell? (ad.add i)=some u):=by
 unfold kG at he;split at he
 ·injection he with he;subst he;exact .inl ⟨r.pT,rfl⟩
 ·injection he with he;subst he
  rcases r.DA with⟨hv,h0⟩|⟨ad,c,k,vs,hv,hk,hr,hc,_⟩
  ·exact .inl ⟨hv,h0⟩
  ·exact .inr ⟨ad,c,vs,hv,hr.mono (dI.of fun _ hm=>hm) (dj.le _),fun i u hu=>(hc i u hu).1⟩
 ·rename_i id ao;split at he
  ·rename_i hver;split at he
   ·rename_i hc;injection he with he;subst he
    obtain⟨hN,hv⟩:=r.mK (show(S.gh L).V id=ao from hver)
    obtain⟨vs,hown,hk,hr⟩:=h.kv hN hc;rcases hown.2 with⟨hL,h0⟩|⟨g,cap,cur,hL,_,hh,_,_,_,htake⟩
    ·exact .inl ⟨by rw[hv];exact hL,Qq67 h0⟩
    ·refine .inr ⟨⟨g,0,none⟩,cap,vs,by rw[hv];exact hL,hr,fun i u hu=> ?_⟩
     exact hown.cells (g:=g) (by rw[hL];rfl) i u hu
   ·cases he
  ·cases he
 ·rename_i id ao k lo n;split at he
  ·rename_i hver;split at he
   ·rename_i e1 k' es0 hc;split at he
    ·rename_i hb;subst hb;injection he with he;subst he
     obtain⟨hN,ad,c,hv,hat⟩:=r.yy (show(S.gh L).V id=ao from hver)
     have hb:=h.Hj hN hc hat;obtain⟨a0,m0,c0,hL,q1,q2,q3,q4⟩:=hat;obtain⟨vs,hown,hk,hr⟩:=h.kv hN hc;have hL:L id= .slice a0 m0 c0:=hL;have hlen:((es0.drop lo).take n).length=n:=by simp;omega
     rcases hown.2 with⟨hL',h0⟩|⟨g,cap,cur,hL',_,hh,_,_,_,htake⟩
     ·have:es0=[]:=Qq67 h0;subst this;rw[hL']at hL;injection hL with e1 e2 e3
      subst e1 e2 e3;left;have hn0:n=0:=by omega
      have hl0:lo=0:=by omega
      subst hn0 hl0;rcases q4 with q4|q4
      ·exact absurd rfl q4.2.1
      ·subst q4;rw[hv,q3];exact⟨by simp,by simp⟩
     ·rw[hL']at hL;injection hL with e1 e2 e3
      subst e1 e2 e3
      have hfl:((es0.drop lo).take n).flatten=(es0.flatten.drop (lo*k')).take (n*k'):=by
       rw[tx k' n _ (fun u hu=>hk u (Q2 hu)),xO k' lo _ hk]
      have hr2:=(hr.drop (lo*k')).take (n*k');rw[<-hfl]at hr2
      by_cases hn0:n=0
      ·subst hn0
       cases ad with
       |none=>
        rcases q4 with q4|q4
        ·cases q4.2.2 rfl
        ·cases q4
       |some ad=>
        right;exact⟨ad,c,[],by rw[hv];simp,by simpa using bf.nil,fun i u hu=>by simp at hu⟩
      ·rcases q4 with q4|q4
       ·omega
       ·right;refine⟨⟨g,lo*k',none⟩,c,_,by rw[hv,hlen,q4];simp[add_mid],hr2,fun i u hu=> ?_⟩
        rw[add_mid];refine pz hh ?_;rw[Qq68]at hu;split at hu
        ·have hu:=gQ hu;rw[<-htake,Qq68]at hu;split at hu
         ·exact hu
         ·cases hu
        ·cases hu
    ·cases he
   ·cases he
  ·cases he
 ·cases he
theorem mo{v:Value}{ad:Option Addr}{n c:Nat}(h:v= .slice ad n c):v.ownBlock=cq v:=by subst h;cases ad<;>rfl
theorem B4{P:Program}(w:World)(base:Nat)(t ty e:TypeId)(i:TypeInfo)(z:Value)(size bytes:Nat)(ht:P.underlying t=some (.slice e))(hi:P.info? e=some i)(hz:i.zero=some z)
  (hsize:i.size=size) (hby:i.bytes=bytes) (hsz:0<size)
  (v:Value) (n:Nat) (xs:List Value) (hown:w.ownsRow base e size v n xs)
  (a:Addr) (m c:Nat) (news:List Value) (hl:news.length=m*size) (hnews:∀j u,news[j]?=some u->w.cell? (a.add j)=some u) (h1:∀u∈news,u.oneCell'=true)
  (h63:n+m<=maxLen) (hbytes:(n+m)*bytes<=140737488355328) {v':Value} {w':World} (hrun:(Builtin.append_ #[t,t] ty #[v,.slice (some a) m c]).run P w= .ok v' w'):w.drawn<=w'.drawn:=by
 subst hsize;subst hby;have hsmall:n+m<=9223372036854775807:=by simp only[maxLen]at h63;omega
 have fin:∀{u:Value} {W:World},(Builtin.append_ #[t,t] ty #[v,.slice (some a) m c]).run P w= .ok u W->w.drawn<=W.drawn->w.drawn<=w'.drawn:=fun h hd=>by
  rw[h]at hrun;injection hrun with _ h2
  rw[<-h2];exact hd
 rcases hown.2 with⟨rfl,rfl⟩|⟨g,cap,cur,rfl,hbg,hg,hnc,hcm,hcs,htake⟩
 ·by_cases hm:m=0
  ·subst hm;have hn:news=[]:=Qq67 (by simpa using hl)
   refine fin (u:= .slice none 0 0) (W:=w) ?_ (QI _);simp[Builtin.append_,run_underlying ht,sizeOf,typeInfo,hi,Builtin.lenOf,Builtin.firstCells,loadCells,loadCellsFrom]
  ·exact fin (run_append_nil (P:=P) w t ty e i z ht hi hz a m c news hl hnews (by omega) (by omega) (by have hb:=hbytes;simp only[Nat.zero_add]at hb;omega)) (Nat.le_succ _)
 ·by_cases hroom:n+m<=cap
  ·have hfit:n*i.size+news.length<=cur.size:=by rw[hl,hcs,<-Qq73];exact Qq63 _ hroom
   exact fin (run_append_room (P:=P) w t ty e i ht hi g n cap cur hg a m c news hl hnews h1 hroom hfit) (QI _)
  ·have holds:∀j u,xs[j]?=some u->w.cell? ((⟨g,0,none⟩:Addr).add j)=some u:=hown.cells (g:=g) rfl;exact fin (run_append_grow (P:=P) w t ty e i z ht hi hz ⟨g,0,none⟩ n cap xs hown.1 holds a m c news hl hnews (by omega) (by omega) (growslice_fits (by omega) hbytes)) (Nat.le_succ _)
theorem ZO(h:Rel E S a w L)(hn:nid<S.N){t e:TypeId}{y z:Operand}{y' z':bo}{i:TypeInfo}{zv:Value}(ho:o.op= .call {callee:= .builtin .append,args:=#[y,z],argTypes:=#[t,t]})(ht:P.underlying t=some (.slice e))(hi:P.info? e=some i)
  (hzv:i.zero=some zv) (hzs:zv.cells.size=i.size) (hsz:0<i.size) (hy:bA y=some y') (hz:bA z=some z') (he:exec Γ nid S (.cQ false e i.size i.bytes y' z')=some (x,wr)):Good P E S a w o x wr:=by
 have ry:=h.iw hy;have rz:=h.iw hz
 have hexec:∀(r:Result Value),(Builtin.append_ #[t,t] o.type #[a.eval y,a.eval z]).run P w=r->(execOp a.eval o).run P w=r.andThen fun v w'=> .ok (.value v) w':=by
  intro r hr;simp[execOp,ho,resolve,invoke,builtin,hr]
 simp only[exec,G9]at he;split at he
 ·rename_i news hnews;split at he
  ·rename_i hall;have hall':∀u∈news,u.length=i.size/\u.all PV.one=true:=fun u hu=>by have:=QH.1 hall u hu;simpa using this
   have hnl:news.flatten.length=news.length*i.size:=p6 news i.size (fun u hu=>(hall' u hu).1)
   have hone:∀{vs:List Value},bf w (bs E S L) (S.gh L) news.flatten vs->∀u∈vs,u.oneCell'=true:=by
    intro vs hr u hu;obtain⟨q,hq,rfl⟩:=List.mem_iff_getElem.1 hu;have hx:q<news.flatten.length:=by rw[<-hr.1];exact hq
    have hm:news.flatten[q]∈news.flatten:=Q0 hx;obtain⟨el,hel,hmem⟩:=List.mem_flatten.1 hm;exact((hr.2 q _ _ (Qv hx) (Qv hq)).one (QH.1 (hall' el hel).2 _ hmem)).1
   have main:∀(id0:Nat) (hid:id0<S.N) (es:List (List PV)) (ver':Nat) (v:Value) (vs:List Value),a.eval y=v->w.ownsRow (gp E v) e i.size v es.length vs->bf w (bs E S L) (S.gh L) es.flatten vs->
     (∀u∈es,u.length=i.size)->(S.H id0).ao<ver'->(∀b,v.ownBlock=some b->(S.H id0).c.live=true/\cq (L id0)=some b)->es.length+news.length<=maxLen->(es.length+news.length)*i.bytes<=140737488355328->
     Good P E S a w o (.own id0 ver') (some (id0,⟨ver',.row e i.size (es++news)⟩)):=by
    intro id0 hid es ver' v vs hv hown hr hk hver hblk hmax hby
    have hk2:∀u∈es++news,u.length=i.size:=fun u hu=>by
     rcases Qz.1 hu with hu|hu
     ·exact hk u hu
     ·exact(hall' u hu).1
    have hrun:∃v' w' us,(Builtin.append_ #[t,t] o.type #[a.eval y,a.eval z]).run P w= .ok v' w'/\w'.ownsRow (gp E v) e i.size v' (es.length+news.length) (vs++us)/\w.grownBy w' v.ownBlock/\
      (v'.ownBlock=v.ownBlock\/v'.ownBlock=some w.heap.size)/\bf w (bs E S L) (S.gh L) news.flatten us/\w.drawn<=w'.drawn:=by
     rcases h.IM rz hnews with⟨hvz,hnil⟩|⟨ad,c,us,hvz,hrz,hcz⟩
     ·subst hnil;refine⟨v,w,[],by rw[hv,hvz];exact H3 ht hi hown 0,by simpa using hown,World.grownBy.refl w _,.inl rfl,bf.nil,QI _⟩
     ·have hus:us.length=news.length*i.size:=by rw[hrz.1,hnl]
      obtain⟨v',w',h1,h2,h3,_,h5⟩:=run_append_own_at (P:=P) w (gp E v) t o.type e i zv i.size i.bytes ht hi hzv rfl rfl hzs hsz v es.length vs hown ad news.length c us hus hcz (hone hrz) hmax hby (QK (Ko E v) h.fr.size);exact⟨v',w',us,by rw[hv,hvz];exact h1,h2,h3,h5,hrz,B4 w (gp E v) t o.type e i zv i.size i.bytes ht hi hzv rfl rfl hsz v es.length vs hown ad news.length c us hus hcz (hone hrz) hmax hby h1⟩
    obtain⟨v',w',us,hr1,hown',hgr,hat,hru,hdrw⟩:=hrun
    have hv':∃ad n c,v'= .slice ad n c:=by
     rcases hown'.2 with⟨rfl,_⟩|⟨g,cap,cur,rfl,_⟩
     ·exact⟨_,_,_,rfl⟩
     ·exact⟨_,_,_,rfl⟩
    obtain⟨ad',n',c',hv'⟩:=hv'
    have hvb:∃ad n c,v= .slice ad n c:=by
     rcases hown.2 with⟨rfl,_⟩|⟨g,cap,cur,rfl,_⟩
     ·exact⟨_,_,_,rfl⟩
     ·exact⟨_,_,_,rfl⟩
    obtain⟨ad0,n0,c0,hv0⟩:=hvb
    have hown':w'.ownsRow (gp E v') e i.size v' (es.length+news.length) (vs++us):=by
     rcases hat with hat|hat
     ·rw[Al (v:=v') (v':=v) (by rw[<-mo hv',<-mo hv0,hat])]
      exact hown'
     ·refine⟨hown'.1,?_⟩;rcases hown'.2 with hnil|⟨g,cap,cur,e1,e2,e3⟩
      ·exact .inl hnil
      ·rw[mo hv']at hat;have hg:g=w.heap.size:=by rw[e1]at hat;simpa[cq]using hat
       refine .inr ⟨g,cap,cur,e1,?_,e3⟩;rw[Iv hat h.fr.size,hg];exact h.fr.size
    obtain⟨h2,hs2,hg2⟩:=h.sW (w':=w') (hdr:=hdrw) hid ⟨ver',.row e i.size (es++news)⟩ v' (.inr hver) hgr.os hgr.tape hgr.output hgr.size
     (fun b hb hne=>hgr.block b hb (fun eb=>by
      obtain⟨q1,q2⟩:=hblk b eb.symm
      exact hne q1 q2))
     (fun b _ hb=>by
      rw[<-mo hv']at hb;rcases hat with hat|hat
      ·rw[hat]at hb;exact .inl (hblk b hb)
      ·rw[hat]at hb;injection hb with hb
       exact .inr (by omega))
     (fun hs2 hg2=>⟨vs++us,by simpa using hown',hk2,by simp only[List.flatten_append];exact(hr.append hru).mono hs2 hg2⟩)
    refine⟨_,w',_,v',by rw[hexec _ hr1];rfl,.inl rfl,?_,h2⟩
    subst hv';exact .own _ _ _ _ _ hid (by simp[St.gh,St.fu,cr]) (fun _=>by simp[St.gh,St.fu,cr])
   split at he
   ·rename_i ey;rw[ey]at ry;split at he
    ·rename_i hb;obtain⟨rfl,rfl⟩:=bR he;have:=main nid hn [] ((S.H nid).ao+1) (.slice none 0 0) [] ry.pT (World.ownsRow_nil w _ _ _) bf.nil (by simp) (Nat.lt_succ_self _) (fun b hb=>by simp[Value.ownBlock]at hb) (by simpa using hb.2) (by simpa using hb.1)
     simpa using this
    ·cases he
   ·rename_i id ao ey;rw[ey]at ry;split at he
    ·rename_i hver;split at he
     ·rename_i e' k' es hc;split at he
      ·rename_i hb;obtain⟨rfl,rfl,hby,hmax⟩:=hb;obtain⟨rfl,rfl⟩:=bR he;obtain⟨hN,hv⟩:=ry.mK (show(S.gh L).V id=ao from hver)
       obtain⟨vs,hown,hk,hr⟩:=h.kv hN hc
       have hLs:∃ad n c,L id= .slice ad n c:=by
        rcases hown.2 with⟨hL,_⟩|⟨g,cap,cur,hL,_⟩
        ·exact⟨_,_,_,hL⟩
        ·exact⟨_,_,_,hL⟩
       obtain⟨ad0,n0,c0,hL0⟩:=hLs;exact main id hN es (ao+1) (L id) vs hv hown hr hk (by omega) (fun b hb=>⟨by rw[hc];rfl,by rw[mo hL0]at hb;exact hb⟩) hmax hby
      ·cases he
     ·cases he
    ·cases he
   ·cases he
  ·cases he
 ·cases he
theorem Mf(z:Array Value)(n:Nat):(Builtin.zeroCells z n).toList=(List.replicate n z.toList).flatten:=by
 unfold Builtin.zeroCells
 by_cases hz:0<z.size
 ·exact Gx z hz n
 ·have h0:z.size=0:=by omega
  have hz:z=#[]:=Array.eq_empty_of_size_eq_zero h0;subst hz;simp
theorem abd(h:Rel E S a w L){t e:TypeId}{y:Operand}{y':bo}{i:TypeInfo}{zc:List PV}(ho:o.op= .call {callee:= .builtin .clear,args:=#[y],argTypes:=#[t]})(ht:P.underlying t=some (.slice e))(hi:P.info? e=some i)
  (hz:tQ P e=some zc) (hy:bA y=some y') (he:exec Γ nid S (.clear i.size zc y')=some (x,wr)):Good P E S a w o x wr:=by
 have r:=h.iw hy;simp only[exec]at he;split at he
 case h_2=>cases he
 rename_i id ao k0 lo n e0;rw[e0]at r;split at he
 case isFalse=>cases he
 rename_i hver;split at he
 case h_2=>cases he
 rename_i e1 k' es hc;split at he
 case isFalse=>cases he
 rename_i hb;obtain⟨hk1,hk2,hk3,hone⟩:=hb;subst hk2;subst hk1;obtain⟨rfl,rfl⟩:=bR he;obtain⟨hN,ad,c,hv,hat⟩:=r.yy (show(S.gh L).V id=ao from hver)
 have hlen:=h.Hj hN hc hat;obtain⟨a0,m0,c0,hL,q1,q2,q3,q4⟩:=hat;have hL:L id= .slice a0 m0 c0:=hL;obtain⟨vs,hown,hk,hr⟩:=h.kv hN hc;obtain⟨i',v,hi',hv0,hs,hrz⟩:=Bq (P:=P) (w:=w) (M:=bs E S L) (G:=S.gh L) hz;rw[hi]at hi';injection hi' with hi'
 subst hi'
 have hkz:∀u∈es.take lo++List.replicate n (zc.map nz)++es.drop (lo+n),u.length=i.size:=by
  intro u hu;simp only[Qz]at hu;rcases hu with(hu|hu)|hu
  ·exact hk u (Q1 hu)
  ·rw[(List.mem_replicate.1 hu).2,QC,hk3]
  ·exact hk u (Q2 hu)
 have hlz:(es.take lo++List.replicate n (zc.map nz)++es.drop (lo+n)).length=es.length:=by simp;omega
 have hfl:(es.take lo++List.replicate n (zc.map nz)++es.drop (lo+n)).flatten=es.flatten.take (lo*i.size)++(List.replicate n (zc.map nz)).flatten++es.flatten.drop (lo*i.size+n*i.size):=by
  rw[List.flatten_append,List.flatten_append,tx i.size lo es hk,xO i.size (lo+n) es hk,Qq73]
 have hrn:bf w (bs E S L) (S.gh L) (List.replicate n (zc.map nz)).flatten (List.replicate n v.cells.toList).flatten:=vI hrz.nz n;have hnl:(List.replicate n v.cells.toList).flatten.length=n*i.size:=by rw[p6 _ i.size (fun u hu=>by rw[(List.mem_replicate.1 hu).2];simpa using hs)];simp
 by_cases hn0:n=0
 ·subst hn0;have hsame:es.take lo++List.replicate 0 (zc.map nz)++es.drop (lo+0)=es:=by simp
  rw[hsame]
  obtain⟨h2,hs2,hg⟩:=h.sW (w':=w) hN ⟨ao,.row e1 i.size es⟩ (L id) (.inl ⟨hver.symm,rfl,by rw[hc];rfl⟩) rfl rfl rfl (QI _)
   (fun q hq _=>rfl) (fun q _ hq=> .inl ⟨by rw[hc];rfl,hq⟩) (fun hs2 hg=>⟨vs,hown,hk,hr.mono hs2 hg⟩)
  refine⟨_,w,_,.tuple #[],?_,.inl rfl,.dO [] [] rfl (fun j p u hp=>by simp at hp),h2⟩
  cases ad<;>simp[execOp,ho,resolve,invoke,builtin,Builtin.clear_,run_underlying ht,hv]
 ·rcases hown.2 with⟨hL',h0⟩|⟨g,cap,cur,hL',hb1,hh,hnc,hcm,hcs,htake⟩
  ·omega
  rw[hL']at hL;injection hL with e2 e3 e4
  subst e2 e3 e4;rcases q4 with q4|q4
  ·omega
  have hone':∀u∈(List.replicate n v.cells.toList).flatten,u.oneCell'=true:=by
   intro u hu;obtain⟨l,hl,hul⟩:=List.mem_flatten.1 hu;rw[(List.mem_replicate.1 hl).2]at hul;obtain⟨q,hq,rfl⟩:=List.mem_iff_getElem.1 hul;have hx:q<zc.length:=by rw[<-hrz.1];exact hq
   exact((hrz.2 q _ _ (Qv hx) (Qv hq)).one (QH.1 hone _ (Q0 hx))).1
  have hcl:lo*i.size+n*i.size<=cur.size:=by
   rw[hcs,<-Qq73];exact Qq63 _ (by omega)
  have hst:=run_storeCells_at (P:=P) g (lo*i.size) e1 (List.replicate n v.cells.toList).flatten 0 cur w hh (by rw[hnl];omega) hone'
  simp only[Nat.add_zero,hnl]at hst;have hz0:(Builtin.zeroCells v.cells n).toList=(List.replicate n v.cells.toList).flatten:=Mf _ _
  have hset:(w.setRow g (cur.toList.take (lo*i.size)++(List.replicate n v.cells.toList).flatten++cur.toList.drop (lo*i.size+n*i.size)).toArray).ownsRow (gp E (L id)) e1 i.size (L id) (es.take lo++List.replicate n (zc.map nz)++es.drop (lo+n)).length (vs.take (lo*i.size)++(List.replicate n v.cells.toList).flatten++vs.drop (lo*i.size+n*i.size)):=by
   have hvl:vs.length=es.length*i.size:=hown.1;have hle:lo*i.size+n*i.size<=es.length*i.size:=by rw[<-Qq73];exact Qq63 _ hlen
   rw[hlz]
   refine⟨by simp only[QB,List.length_take,List.length_drop,hnl,hvl];omega,.inr ⟨g,cap,_,hL',hb1,setRow_heap w g cur _ e1 _ hh,hnc,hcm,by
    rw[hcs]at hcl;simp only[List.size_toArray,QB,List.length_take,List.length_drop,Array.length_toList,hnl,hcs]
    omega,?_⟩⟩
   rw[<-htake];have hce:es.length*i.size<=cur.size:=by rw[hcs];exact Qq63 _ hnc
   simpa using Is cur.toList (List.replicate n v.cells.toList).flatten (lo*i.size) (n*i.size) (es.length*i.size) hnl hle (by simpa using hce)
  obtain⟨h2,hs2,hg⟩:=h.sW (w':=w.setRow g (cur.toList.take (lo*i.size)++(List.replicate n v.cells.toList).flatten++cur.toList.drop (lo*i.size+n*i.size)).toArray) hN
   ⟨ao,.row e1 i.size (es.take lo++List.replicate n (zc.map nz)++es.drop (lo+n))⟩ (L id) (.inl ⟨hver.symm,rfl,by rw[hc];rfl⟩) rfl rfl rfl (by simp)
   (fun q hq hne=>setRow_other w g q _ (fun ek=>hne (by rw[hc];rfl) (by rw[hL',ek];rfl)))
   (fun q _ hq=> .inl ⟨by rw[hc];rfl,hq⟩)
   (fun hs2 hg=>⟨_,hset,hkz,by
    rw[hfl];have h5:=(((hr.take (lo*i.size)).append hrn).append (hr.drop (lo*i.size+n*i.size))).mono hs2 hg
    exact h5⟩)
  refine⟨_,_,_,.tuple #[],?_,.inl rfl,.dO [] [] rfl (fun j p u hp=>by simp at hp),h2⟩
  have hv':a.eval y= .slice (some ⟨g,lo*i.size,none⟩) n c:=by rw[hv,q4];simp[add_mid]
  have hnn:∃m,n=m+1:=⟨n - 1,by omega⟩
  obtain⟨m,rfl⟩:=hnn;simp[execOp,ho,resolve,invoke,builtin,Builtin.clear_,run_underlying ht,hv',zeroValue,typeInfo,hi,hv0,hz0,hst]
theorem TF(h:Rel E S a w L){neg:Bool}{t t2 e:TypeId}{y:Operand}{y':bo}(ho:o.op= .binOp (if neg then .neq else .eql) t y (.const (.slice none 0 0)) t2)(ht:P.underlying t=some (.slice e))(hy:bA y=some y')
  (he:exec Γ nid S (.xJ neg y')=some (x,wr)):Good P E S a w o x wr:=by
 have r:=h.iw hy
 have key:∀(ad:Option Addr) (n c:Nat),a.eval y= .slice ad n c->(execOp a.eval o).run P w= .ok (.value (.bool (xor neg ad.isNone))) w:=by
  intro ad n c hv;have hc:a.eval (.const (.slice none 0 0))= .slice none 0 0:=rfl;have hq:=run_equal_slice_nil (P:=P) w t e ad n c ht;have hg:∀op,(eqGuard op t y (.const (.slice none 0 0)) (.slice ad n c) (.slice none 0 0)).run P w= .ok () w:=by intro op;cases op<;>simp[eqGuard]
  cases neg
  ·simp only[Qq,Qu]at ho;simp only[execOp,ho,hv,hc,Sem.run_bind,hg,Result.andThen_ok,binOp,hq,Sem.run_pure];simp
  ·simp only[Qt]at ho;simp only[execOp,ho,hv,hc,Sem.run_bind,hg,Result.andThen_ok,binOp,hq,Sem.run_pure];simp
 simp only[exec]at he;split at he
 ·rename_i e0;rw[e0]at r;obtain⟨rfl,rfl⟩:=bR he;exact Good.pure h (key none 0 0 r.pT) (by cases neg<;>exact .bool _)
 ·split at he
  ·rename_i hes;obtain⟨rfl,rfl⟩:=bR he;obtain⟨ad,c,hv⟩:=h.Ry r hes;exact Good.pure h (key ad _ c hv) (.gH _)
  ·rename_i u us hes;obtain⟨rfl,rfl⟩:=bR he;rcases h.IM r hes with⟨_,h0⟩|⟨ad,c,vs,hv,_⟩
   ·cases h0
   ·exact Good.pure h (key (some ad) _ c hv) (by cases neg<;>exact .bool _)
  ·cases he
end
end
section
open Go.RowKit
section
variable {P : Program} {E : En} {S : St} {a : Act} {w : World} {L : Nat -> Value} {o : Oper} {x : PV} {wr : Option (Nat × fT)} {Γ : ow} {nid : Nat}
theorem Uo{t:TypeId}{fs:Array Field}{f g:Field}{k0 k:IntKind}{p q:Int}{s u:ByteArray}(ht:P.underlying t=some (.struct fs))(hfs:fs.toList=[f,g])(hf:P.underlying f.type=some (.int k0))(hg:P.underlying g.type=some .string)
  (h0:f.offset=0) (h1:g.offset=1) (hn0:f.name≠ "_") (hn1:g.name≠ "_") (hst:P.stoodInHeld t=false) (d:Nat):
  (Op.equalIn (d+2) t (.agg #[.int k p,.string s]) (.agg #[.int k q,.string u])).run P w= .ok (decide (p=q)&&decide (s=u)) w:=by
 have hfo:P.fieldsOf t=fs:=by simp[Program.fieldsOf,ht]
 have hi0:(isAgg f.type).run P w= .ok false w:=by simp[isAgg,run_underlying hf]
 have hi1:(isAgg g.type).run P w= .ok false w:=by simp[isAgg,run_underlying hg]
 have p0:∀v u:Value,(part f.type #[v,u] 0).run P w= .ok v w:=fun v u=>by simp[part,hi0]
 have p1:∀v u:Value,(part g.type #[v,u] 1).run P w= .ok u w:=fun v u=>by simp[part,hi1]
 rw[run_equalIn_struct w (d+1) t _ _ (by rw[hfo];exact ht) hst,hfo,hfs]
 have q0:=run_equalIn_int (P:=P) w d f.type k k0 p q hf;have q1:=run_equalIn_string (P:=P) w d g.type s u hg;rw[toList_eq_iff]at q1
 by_cases hpq:p=q
 ·subst hpq;simp[Op.eqFields,hn0,hn1,h0,h1,p0,p1,q0,q1]
  by_cases hsu:s=u<;>simp[hsu]
 ·have:(p==q)=false:=by simp[hpq]
  rw[this]at q0;simp[Op.eqFields,hn0,h0,p0,q0,hpq]
theorem ZL(h:Rel E S a w L){neg:Bool}{y z:Operand}{y' z':bo}{t t2:TypeId}(ho:o.op= .binOp (if neg then .neq else .eql) t y z t2)(ht:P.underlying t=some .bool)
  (hy:bA y=some y') (hz:bA z=some z') (he:exec Γ nid S (.GV neg y' z')=some (x,wr)):Good P E S a w o x wr:=by
 have ry:=h.iw hy;have rz:=h.iw hz;simp only[exec]at he;split at he
 ·rename_i p q e1 e2;obtain⟨rfl,rfl⟩:=bR he;rw[e1]at ry;rw[e2]at rz;have hv:=ry.nh;have hu:=rz.nh;have hd:(p==q)=decide (p=q):=by cases p<;>cases q<;>rfl
  have hrun:=run_equalIn_bool (P:=P) w 9999 t p q ht;rw[hd]at hrun;have hgd:∀op,(eqGuard op t y z (.bool p) (.bool q)).run P w= .ok () w:=by intro op;cases op<;>simp[eqGuard]
  refine Good.pure h (v:= .bool (xor neg (decide (p=q)))) ?_ (.bool _);cases neg
  ·simp only[Qq,Qu]at ho;simp only[execOp,ho,hv,hu,Sem.run_bind,hgd,Result.andThen_ok,binOp,Op.equal,Op.maxDepth,Sem.run_pure];rw[hrun];simp
  ·simp only[Qt]at ho;simp only[execOp,ho,hv,hu,Sem.run_bind,hgd,Result.andThen_ok,binOp,Op.equal,Op.maxDepth,Sem.run_pure];rw[hrun];simp
 ·cases he
theorem ZM(h:Rel E S a w L){neg:Bool}{y z:Operand}{y' z':bo}{t t2:TypeId}{fs:Array Field}{f g:Field}{k0:IntKind}(ho:o.op= .binOp (if neg then .neq else .eql) t y z t2)(ht:P.underlying t=some (.struct fs))(hfs:fs.toList=[f,g])
  (hf:P.underlying f.type=some (.int k0)) (hg:P.underlying g.type=some .string) (h0:f.offset=0) (h1:g.offset=1) (hn0:f.name≠ "_") (hn1:g.name≠ "_") (hst:P.stoodInHeld t=false) (hgu:P.eqGuardType P.depth t=false)
  (hy:bA y=some y') (hz:bA z=some z') (he:exec Γ nid S (.lu neg y' z')=some (x,wr)):Good P E S a w o x wr:=by
 have ry:=h.iw hy;have rz:=h.iw hz;simp only[exec]at he;split at he
 ·rename_i k p s k' q u e1 e2;split at he
  ·rename_i hk;subst hk;obtain⟨rfl,rfl⟩:=bR he;rw[e1]at ry;rw[e2]at rz;obtain⟨vs,hv,hr⟩:=ry.n5;obtain⟨us,hu,hr2⟩:=rz.n5;obtain⟨v1,vs1,rfl,r1,hr⟩:=hr.cons_inv;obtain⟨v2,vs2,rfl,r2,hr⟩:=hr.cons_inv;have:=hr.nY;subst this;obtain⟨u1,us1,rfl,r3,hr2⟩:=hr2.cons_inv;obtain⟨u2,us2,rfl,r4,hr2⟩:=hr2.cons_inv;have:=hr2.nY;subst this;have:=r1.fG;subst this;have:=r2.wU;subst this;have:=r3.fG;subst this;have:=r4.wU;subst this;have hrun:=Uo (P:=P) (w:=w) (k:=k) (p:=p) (q:=q) (s:=s) (u:=u) ht hfs hf hg h0 h1 hn0 hn1 hst 9998
   have hgd:∀op,(eqGuard op t y z (.agg [.int k p,.string s].toArray) (.agg [.int k q,.string u].toArray)).run P w= .ok () w:=by
    intro op;cases op<;>simp[eqGuard,program,Sem.run,hgu]
   refine Good.pure h (v:= .bool (xor neg (decide (p=q)&&decide (s=u)))) ?_ (.bool _);cases neg
   ·simp only[Qq,Qu]at ho;simp only[execOp,ho,hv,hu,Sem.run_bind,hgd,Result.andThen_ok,binOp,Op.equal,Op.maxDepth,Sem.run_pure];rw[hrun];simp
   ·simp only[Qt]at ho;simp only[execOp,ho,hv,hu,Sem.run_bind,hgd,Result.andThen_ok,binOp,Op.equal,Op.maxDepth,Sem.run_pure];rw[hrun];simp
  ·cases he
 ·cases he
theorem Di:∀(ks ks':List LK) (cs ds:List PV) (b:Bool),lS (ks++ks') cs ds=some b->
  ∃b1 b2,lS ks (cs.take ks.length) (ds.take ks.length)=some b1/\lS ks' (cs.drop ks.length) (ds.drop ks.length)=some b2/\b=(b1&&b2)
 |[],ks',cs,ds,b,h=>⟨true,b,by simp[lS],by simpa using h,by simp⟩
 |k::ks,ks',cs,ds,b,h=>by
  cases k<;>cases cs<;>cases ds<;>simp only[List.cons_append,lS]at h<;>try (cases h;done)
  all_goals rename_i x cs y ds
  all_goals cases x<;>cases y<;>simp only[lS]at h<;>try (cases h;done)
  ·split at h
   ·rename_i hk;simp only[Qb]at h;obtain⟨r,hr,rfl⟩:=h;obtain⟨b1,b2,h1,h2,rfl⟩:=Di ks ks' cs ds r hr;refine⟨_,b2,?_,h2,(Bool.and_assoc _ _ _).symm⟩;simp only[QE,List.take_succ_cons,lS,Qr hk,h1,Qe]
   ·cases h
  all_goals
   simp only[Qb]at h;obtain⟨r,hr,rfl⟩:=h;obtain⟨b1,b2,h1,h2,rfl⟩:=Di ks ks' cs ds r hr;refine⟨_,b2,?_,h2,(Bool.and_assoc _ _ _).symm⟩;simp only[QE,List.take_succ_cons,lS,h1,Qe]
theorem JH:∀(ks:List LK) (cs ds:List PV) (b:Bool),lS ks cs ds=some b->cs.length=ks.length/\ds.length=ks.length
 |[],cs,ds,b,h=>by cases cs<;>cases ds<;>simp[lS]at h<;>simp
 |k::ks,cs,ds,b,h=>by
  cases k<;>cases cs<;>cases ds<;>(try simp only[lS]at h)<;>try (cases h;done)
  all_goals rename_i x cs y ds
  all_goals cases x<;>cases y<;>simp only[lS]at h<;>try (cases h;done)
  ·split at h
   ·simp only[Qb]at h;obtain⟨r,hr,rfl⟩:=h;have:=JH ks cs ds r hr;simp[this.1,this.2]
   ·cases h
  all_goals
   simp only[Qb]at h;obtain⟨r,hr,rfl⟩:=h;have:=JH ks cs ds r hr;simp[this.1,this.2]
def valOf(P:Program)(t:TypeId)(vs:List Value):Value:=
 match P.underlying t with
 |some (.struct _)=> .agg vs.toArray
 |_=>vs.headD undef
theorem LA{d:Nat}{t:TypeId}{ks:List LK}(h:yU P (d+1) t=some ks):
  (∃k,P.underlying t=some (.int k)/\ks=[.i])\/(P.underlying t=some .string/\ks=[.s])\/(P.underlying t=some .bool/\ks=[.b])\/∃fs,P.underlying t=some (.struct fs)/\P.stoodInHeld t=false/\MY P (yU P d) fs.toList 0=some ks:=by
 rw[yU]at h;split at h
 ·rename_i k hu;injection h with h;exact .inl ⟨k,hu,h.symm⟩
 ·rename_i hu;injection h with h;exact .inr (.inl ⟨hu,h.symm⟩)
 ·rename_i hu;injection h with h;exact .inr (.inr (.inl ⟨hu,h.symm⟩))
 ·rename_i fs hu;split at h
  ·rename_i hs;exact .inr (.inr (.inr ⟨fs,hu,hs,h⟩))
  ·cases h
 ·cases h
theorem Kh{t:TypeId}{d off:Nat}{ks:List LK}{i:TypeInfo}{vs:List Value}(h:yU P d t=some ks)(hi:P.info? t=some i)(hn:i.size=ks.length)(hlen:off+ks.length<=vs.length):
  (part t vs.toArray off).run P w= .ok (valOf P t ((vs.drop off).take ks.length)) w:=by
 cases d with
 |zero=>simp[yU]at h
 |succ d=>
  have leaf:(∀fs,P.underlying t≠some (.struct fs))->(isAgg t).run P w= .ok false w->ks.length=1->(part t vs.toArray off).run P w= .ok (valOf P t ((vs.drop off).take ks.length)) w:=by
   intro hns ha h1;have hlt:off<vs.length:=by omega
   have hv:valOf P t ((vs.drop off).take ks.length)=vs[off]:=by
    unfold valOf;split
    ·rename_i fs hfs;exact absurd hfs (hns fs)
    ·rw[h1,QM hlt];rfl
   rw[hv];simp[part,ha,hlt]
  rcases LA h with⟨k,hu,rfl⟩|⟨hu,rfl⟩|⟨hu,rfl⟩|⟨fs,hu,_,_⟩
  ·exact leaf (fun fs e=>by rw[hu]at e;cases e) (by simp[isAgg,run_underlying hu]) rfl
  ·exact leaf (fun fs e=>by rw[hu]at e;cases e) (by simp[isAgg,run_underlying hu]) rfl
  ·exact leaf (fun fs e=>by rw[hu]at e;cases e) (by simp[isAgg,run_underlying hu]) rfl
  ·have ha:(isAgg t).run P w= .ok true w:=by simp[isAgg,run_underlying hu]
   have hv:valOf P t ((vs.drop off).take ks.length)= .agg ((vs.drop off).take ks.length).toArray:=by unfold valOf;rw[hu]
   rw[hv];simp[part,ha,sizeOf,typeInfo,hi,hn,List.extract]
theorem XY{M:Nat->Prop}{G:Gh}{d e:Nat}(hA:∀(t:TypeId) (ks:List LK) (cs ds:List PV) (b:Bool) (vs us:List Value),yU P d t=some ks->lS ks cs ds=some b->bf w M G cs vs->bf w M G ds us->(Op.equalIn e t (valOf P t vs) (valOf P t us)).run P w= .ok b w):
  ∀(fs:List Field) (ks:List LK) (off:Nat) (cs ds:List PV) (b:Bool) (vs us:List Value),MY P (yU P d) fs off=some ks->cs.length=off+ks.length->ds.length=off+ks.length->lS ks (cs.drop off) (ds.drop off)=some b->bf w M G cs vs->bf w M G ds us->(Op.eqFields e vs.toArray us.toArray fs).run P w= .ok b w:=by
 intro fs
 induction fs with
 |nil=>
  intro ks off cs ds b vs us h hc hd hq hr hr2;simp only[MY,Qf]at h;subst h;rw[List.drop_eq_nil_of_le (by simpa using Nat.le_of_eq hc),List.drop_eq_nil_of_le (by simpa using Nat.le_of_eq hd)]at hq
  simp only[lS,Qf]at hq;subst hq;simp[Op.eqFields]
 |cons f fs ih=>
  intro ks off cs ds b vs us h hc hd hq hr hr2;rw[MY]at h;split at h
  ·rename_i hname;obtain⟨hname,hoff⟩:=hname;split at h
   ·rename_i k1 i hk1 hi;split at h
    ·rename_i hsz;simp only[Qb]at h;obtain⟨k2,hk2,rfl⟩:=h;rw[QB]at hc hd;obtain⟨b1,b2,h1,h2,rfl⟩:=Di k1 k2 _ _ b hq;rw[List.drop_drop]at h2;rw[List.drop_drop]at h2;have p1:(part f.type vs.toArray f.offset).run P w=_:=Kh (w:=w) hk1 hi hsz (by rw[hoff,hr.1];omega)
     have p2:(part f.type us.toArray f.offset).run P w=_:=Kh (w:=w) hk1 hi hsz (by rw[hoff,hr2.1];omega)
     have q1:=hA f.type k1 _ _ b1 _ _ hk1 h1 ((hr.drop off).take k1.length) ((hr2.drop off).take k1.length);rw[<-hoff]at q1;have q2:=ih k2 (off+k1.length) cs ds b2 vs us hk2 (by omega) (by omega) h2 hr hr2
     cases b1 with
     |false=>simp[Op.eqFields,hname,p1,p2,q1]
     |true=>simp[Op.eqFields,hname,p1,p2,q1,q2]
    ·cases h
   ·cases h
  ·cases h
theorem Pj{M:Nat->Prop}{G:Gh}:∀(d:Nat) (t:TypeId) (ks:List LK) (e:Nat) (cs ds:List PV) (b:Bool) (vs us:List Value),yU P d t=some ks->d<=e->lS ks cs ds=some b->bf w M G cs vs->bf w M G ds us->(Op.equalIn e t (valOf P t vs) (valOf P t us)).run P w= .ok b w
 |0=>fun t ks e cs ds b vs us h=>by simp[yU]at h
 |d+1=>by
  have hA:=Pj (M:=M) (G:=G) d;intro t ks e cs ds b vs us h he hq hr hr2
  ·obtain⟨e,rfl⟩:∃e',e=e'+1:=⟨e - 1,by omega⟩
   obtain⟨hl1,hl2⟩:=JH _ _ _ _ hq
   have one:∀{x:LK},ks=[x]->∃p q v u,cs=[p]/\ds=[q]/\vs=[v]/\us=[u]/\bg w M G p v/\bg w M G q u:=by
    intro x hx;subst hx;have h1:∃p,cs=[p]:=List.length_eq_one_iff.1 hl1;have h2:∃p,ds=[p]:=List.length_eq_one_iff.1 hl2;obtain⟨p,rfl⟩:=h1;obtain⟨q,rfl⟩:=h2;obtain⟨v,vs',rfl,r1,r2⟩:=hr.cons_inv;obtain⟨u,us',rfl,r3,r4⟩:=hr2.cons_inv;have e1:=r2.nY;have e2:=r4.nY;subst e1 e2;exact⟨p,q,v,u,rfl,rfl,rfl,rfl,r1,r3⟩
   have hval:∀l:List Value,(∀fs,P.underlying t≠some (.struct fs))->valOf P t l=l.headD undef:=by
    intro l hns;unfold valOf;split
    ·rename_i fs hfs;exact absurd hfs (hns fs)
    ·rfl
   rcases LA h with⟨k,hu,hk⟩|⟨hu,hk⟩|⟨hu,hk⟩|⟨fs,hu,hst,hf⟩
   ·obtain⟨p,q,v,u,rfl,rfl,rfl,rfl,r1,r2⟩:=one hk;subst hk;rw[hval _ (fun fs e=>by rw[hu]at e;cases e),hval _ (fun fs e=>by rw[hu]at e;cases e)]
    cases p<;>cases q<;>simp only[lS]at hq<;>try (cases hq;done)
    split at hq
    ·rename_i hkk;subst hkk;simp only[Qe,Qf,Bool.and_true]at hq;subst hq;have:=r1.fG;subst this;have:=r2.fG;subst this;rename_i k1 a1 b1;exact run_equalIn_int w e t _ k a1 b1 hu
    ·cases hq
   ·obtain⟨p,q,v,u,rfl,rfl,rfl,rfl,r1,r2⟩:=one hk;subst hk;rw[hval _ (fun fs e=>by rw[hu]at e;cases e),hval _ (fun fs e=>by rw[hu]at e;cases e)]
    cases p<;>cases q<;>simp only[lS]at hq<;>try (cases hq;done)
    simp only[Qe,Qf,Bool.and_true]at hq;subst hq;have:=r1.wU;subst this;have:=r2.wU;subst this;rename_i a1 b1;have:=run_equalIn_string (P:=P) w e t a1 b1 hu;rw[toList_eq_iff]at this;exact this
   ·obtain⟨p,q,v,u,rfl,rfl,rfl,rfl,r1,r2⟩:=one hk;subst hk;rw[hval _ (fun fs e=>by rw[hu]at e;cases e),hval _ (fun fs e=>by rw[hu]at e;cases e)]
    cases p<;>cases q<;>simp only[lS]at hq<;>try (cases hq;done)
    simp only[Qe,Qf,Bool.and_true]at hq;subst hq;have:=r1.nh;subst this;have:=r2.nh;subst this;rename_i a1 b1;have:=run_equalIn_bool (P:=P) w e t a1 b1 hu;rw[show(a1==b1)=decide (a1=b1)by cases a1<;>cases b1<;>rfl]at this
    exact this
   ·have hv:∀l:List Value,valOf P t l= .agg l.toArray:=fun l=>by unfold valOf;rw[hu]
    have hfo:P.fieldsOf t=fs:=by simp[Program.fieldsOf,hu]
    rw[hv,hv,run_equalIn_struct w e t _ _ (by rw[hfo];exact hu) hst,hfo]
    exact XY (fun t ks cs ds b vs us h1 h2 h3 h4=>hA t ks e cs ds b vs us h1 (by omega) h2 h3 h4) fs.toList ks 0 cs ds b vs us hf (by omega) (by omega) (by simpa using hq) hr hr2
theorem OT(h:Rel E S a w L){neg:Bool}{ks:List LK}{y z:Operand}{y' z':bo}{t t2:TypeId}{fs:Array Field}(ho:o.op= .binOp (if neg then .neq else .eql) t y z t2)(ht:P.underlying t=some (.struct fs))(hk:yU P 64 t=some ks)
  (hgu:P.eqGuardType P.depth t=false) (hy:bA y=some y') (hz:bA z=some z') (he:exec Γ nid S (.DW neg ks y' z')=some (x,wr)):Good P E S a w o x wr:=by
 have ry:=h.iw hy;have rz:=h.iw hz;simp only[exec]at he;split at he
 ·rename_i cs ds e1 e2;simp only[Qb]at he;obtain⟨b,hb,he⟩:=he;injection he with h1 h2
  subst h1 h2;rw[e1]at ry;rw[e2]at rz;obtain⟨vs,hv,hr⟩:=ry.n5;obtain⟨us,hu,hr2⟩:=rz.n5;have hval:∀l:List Value,valOf P t l= .agg l.toArray:=fun l=>by unfold valOf;rw[ht]
  have hrun:=Pj (P:=P) (w:=w) 64 t ks 10000 cs ds b vs us hk (by omega) hb hr hr2
  rw[hval,hval]at hrun
  have hgd:∀op,(eqGuard op t y z (.agg vs.toArray) (.agg us.toArray)).run P w= .ok () w:=by
   intro op;cases op<;>simp[eqGuard,program,Sem.run,hgu]
  refine Good.pure h (v:= .bool (xor neg b)) ?_ (.bool _);cases neg
  ·simp only[Qq,Qu]at ho;simp only[execOp,ho,hv,hu,Sem.run_bind,hgd,Result.andThen_ok,binOp,Op.equal,Op.maxDepth,Sem.run_pure];rw[hrun];simp
  ·simp only[Qt]at ho;simp only[execOp,ho,hv,hu,Sem.run_bind,hgd,Result.andThen_ok,binOp,Op.equal,Op.maxDepth,Sem.run_pure];rw[hrun];simp
 ·cases he
theorem Sv{t:TypeId}{fs:Array Field}{f g:Field}{k0 l0 k l:IntKind}{p q s u:Int}(ht:P.underlying t=some (.struct fs))(hfs:fs.toList=[f,g])(hf:P.underlying f.type=some (.int k0))(hg:P.underlying g.type=some (.int l0))
  (h0:f.offset=0) (h1:g.offset=1) (hn0:f.name≠ "_") (hn1:g.name≠ "_") (hst:P.stoodInHeld t=false) (d:Nat):
  (Op.equalIn (d+2) t (.agg #[.int k p,.int l s]) (.agg #[.int k q,.int l u])).run P w= .ok (decide (p=q)&&decide (s=u)) w:=by
 have hfo:P.fieldsOf t=fs:=by simp[Program.fieldsOf,ht]
 have hi0:(isAgg f.type).run P w= .ok false w:=by simp[isAgg,run_underlying hf]
 have hi1:(isAgg g.type).run P w= .ok false w:=by simp[isAgg,run_underlying hg]
 have p0:∀v u:Value,(part f.type #[v,u] 0).run P w= .ok v w:=fun v u=>by simp[part,hi0]
 have p1:∀v u:Value,(part g.type #[v,u] 1).run P w= .ok u w:=fun v u=>by simp[part,hi1]
 rw[run_equalIn_struct w (d+1) t _ _ (by rw[hfo];exact ht) hst,hfo,hfs]
 have q0:=run_equalIn_int (P:=P) w d f.type k k0 p q hf;have q1:=run_equalIn_int (P:=P) w d g.type l l0 s u hg
 by_cases hpq:p=q
 ·subst hpq;simp[Op.eqFields,hn0,hn1,h0,h1,p0,p1,q0,q1]
  by_cases hsu:s=u<;>simp[hsu]
 ·have:(p==q)=false:=by simp[hpq]
  rw[this]at q0;simp[Op.eqFields,hn0,h0,p0,q0,hpq]
theorem Sw{t:TypeId}{fs:Array Field}{f g:Field}{k0 l0 k l:IntKind}{p s:Int}(ht:P.underlying t=some (.struct fs))(hfs:fs.toList=[f,g])(hf:P.underlying f.type=some (.int k0))(hg:P.underlying g.type=some (.int l0))
  (h0:f.offset=0) (h1:g.offset=1) (hn0:f.name≠ "_") (hn1:g.name≠ "_") (em:Bool) (d:Nat):
  (Instr.checkKey em (d+2) t (.agg #[.int k p,.int l s])).run P w= .ok () w:=by
 have hi0:(isAgg f.type).run P w= .ok false w:=by simp[isAgg,run_underlying hf]
 have hi1:(isAgg g.type).run P w= .ok false w:=by simp[isAgg,run_underlying hg]
 have p0:∀v u:Value,(part f.type #[v,u] 0).run P w= .ok v w:=fun v u=>by simp[part,hi0]
 have p1:∀v u:Value,(part g.type #[v,u] 1).run P w= .ok u w:=fun v u=>by simp[part,hi1]
 have e1:fs=#[f,g]:=by rw[<-Array.toArray_toList (xs:=fs),hfs]
 subst e1;simp[Instr.checkKey,run_underlying ht,run_underlying hf,run_underlying hg,hn0,hn1,h0,h1,p0,p1]
theorem Kj{t:TypeId}{fs:Array Field}{f g:Field}{k0 l0 k l:IntKind}{p s:Int}(ht:P.underlying t=some (.struct fs))(hfs:fs.toList=[f,g])(hf:P.underlying f.type=some (.int k0))(hg:P.underlying g.type=some (.int l0))
  (h0:f.offset=0) (h1:g.offset=1) (hn0:f.name≠ "_") (hn1:g.name≠ "_") (hst:P.stoodInHeld t=false) {M:Nat->Prop}:∀(es:List MapEntry) (ks vs:List PV) (i:Nat) (r:Option PV),CH k p l s ks vs=some r->
  es.length=ks.length->es.length=vs.length->(∀(i:Nat) (x:PV) (e:MapEntry),ks[i]?=some x->es[i]?=some e->bg w M dj x e.key)->(∀(i:Nat) (x:PV) (e:MapEntry),vs[i]?=some x->es[i]?=some e->bg w M dj x e.val)->
  ∃q,(Instr.findAsking t (.agg #[.int k p,.int l s]) es i).run P w= .ok q w/\((r=none/\q=none)\/∃j x v,r=some x/\q=some (j,v)/\bg w M dj x v)
 |[],ks,vs,i,r,hm,hk,hv,_,_=>by
  cases ks with
  |cons=>simp at hk
  |nil=>cases vs with
   |cons=>simp at hv
   |nil=>
    simp only[CH,Qf]at hm;subst hm;exact⟨none,by simp[Instr.findAsking],.inl ⟨rfl,rfl⟩⟩
 |e::es,ks,vs,i,r,hm,hk,hv,hr,hr2=>by
  cases ks with
  |nil=>simp at hk
  |cons x ks=>cases vs with
   |nil=>simp at hv
   |cons y vs=>
    unfold CH at hm;split at hm
    ·rename_i heq _;cases heq
    ·rename_i k' a' l' b' ks' v' vs' heq heq2;injection heq with h3 h4
     injection heq2 with h5 h6
     subst h3 h4 h5 h6;split at hm
     ·rename_i hkl;obtain⟨rfl,rfl⟩:=hkl;have rk:=hr 0 _ e rfl rfl;obtain⟨us,hu,hru⟩:=rk.n5;obtain⟨u1,us1,rfl,r1,hru⟩:=hru.cons_inv;obtain⟨u2,us2,rfl,r2,hru⟩:=hru.cons_inv;have:=hru.nY;subst this;have:=r1.fG;subst this;have:=r2.fG;subst this;have hq:=Sv (P:=P) (w:=w) (k:=k) (l:=l) (p:=p) (q:=a') (s:=s) (u:=b') ht hfs hf hg h0 h1 hn0 hn1 hst 9998;have hq2:(Op.equal t (.agg #[.int k p,.int l s]) e.key).run P w= .ok (decide (p=a')&&decide (s=b')) w:=by rw[hu];exact hq
      split at hm
      ·rename_i hab;obtain⟨rfl,rfl⟩:=hab;injection hm with hm
       subst hm;exact⟨some (i,e.val),by simp[Instr.findAsking,hq2],.inr ⟨i,y,e.val,rfl,rfl,hr2 0 y e rfl rfl⟩⟩
      ·rename_i hab
       have hf2:(decide (p=a')&&decide (s=b'))=false:=by
        rw[Bool.and_eq_false_iff,Qj,Qj]
        by_cases h:p=a'
        ·exact .inr fun h'=>hab ⟨h,h'⟩
        ·exact .inl h
       obtain⟨q,h3,h4⟩:=Kj ht hfs hf hg h0 h1 hn0 hn1 hst es ks vs (i+1) r hm (by simpa using hk) (by simpa using hv) (fun i x e h h'=>hr (i+1) x e (by simpa using h) (by simpa using h')) (fun i x e h h'=>hr2 (i+1) x e (by simpa using h) (by simpa using h'))
       refine⟨q,?_,h4⟩;rw[hf2]at hq2;simp[Instr.findAsking,hq2,h3]
     ·cases hm
    ·cases hm
theorem Ov{t:TypeId}{fs:Array Field}{f g:Field}{k0 l0 k l:IntKind}{p s:Int}(ht:P.underlying t=some (.struct fs))(hfs:fs.toList=[f,g])(hf:P.underlying f.type=some (.int k0))(hg:P.underlying g.type=some (.int l0))
  (h0:f.offset=0) (h1:g.offset=1) (hn0:f.name≠ "_") (hn1:g.name≠ "_") (hst:P.stoodInHeld t=false) {M:Nat->Prop} {es:List MapEntry} {ks vs:List PV} {r:Option PV} (hm:CH k p l s ks vs=some r)
  (hk:es.length=ks.length) (hv:es.length=vs.length) (hr:∀(i:Nat) (x:PV) (e:MapEntry),ks[i]?=some x->es[i]?=some e->bg w M dj x e.key) (hr2:∀(i:Nat) (x:PV) (e:MapEntry),vs[i]?=some x->es[i]?=some e->bg w M dj x e.val):
  ∃q,(Instr.findKey t (.agg #[.int k p,.int l s]) es).run P w= .ok q w/\((r=none/\q=none)\/∃j x v,r=some x/\q=some (j,v)/\bg w M dj x v):=by
 obtain⟨q,h3,h4⟩:=Kj ht hfs hf hg h0 h1 hn0 hn1 hst es ks vs 0 r hm hk hv hr hr2;refine⟨q,?_,h4⟩
 cases es with
 |nil=>
  simp[Instr.findAsking]at h3;simp[Instr.findKey,run_underlying ht,Instr.findNow,<-h3]
 |cons e es=>simp[Instr.findKey,run_underlying ht,Instr.findNow,Instr.sameNow,h3]
theorem YD(h:Rel E S a w L){ok:Bool}{y z:Operand}{y' z':bo}{t kt vt:TypeId}{fs:Array Field}{f g:Field}{k0 l0:IntKind}{zv:PV}(ho:o.op= .lookup t y z ok)(ht:P.underlying t=some (.map kt vt))(hkt:P.underlying kt=some (.struct fs))(hfs:fs.toList=[f,g])
  (hf:P.underlying f.type=some (.int k0)) (hg:P.underlying g.type=some (.int l0)) (h0:f.offset=0) (h1:g.offset=1) (hn0:f.name≠ "_") (hn1:g.name≠ "_") (hst:P.stoodInHeld kt=false) {i:TypeInfo} {z0:Value} (hi:P.info? vt=some i) (hz0:i.zero=some z0) (hz:yW z0=some zv)
  (hy:bA y=some y') (hzz:bA z=some z') (he:exec Γ nid S (.lookup ok zv y' z')=some (x,wr)):Good P E S a w o x wr:=by
 have ry:=h.iw hy;have rz:=h.iw hzz;simp only[exec]at he;split at he
 ·rename_i ks vs k p l s e1 e2;simp only[Qb]at he;obtain⟨r,hm,he⟩:=he;injection he with he1 he2
  subst he1 he2;rw[e1]at ry;rw[e2]at rz;obtain⟨us,hu,hru⟩:=rz.n5;obtain⟨u1,us1,rfl,r1,hru⟩:=hru.cons_inv;obtain⟨u2,us2,rfl,r2,hru⟩:=hru.cons_inv;have:=hru.nY;subst this;have:=r1.fG;subst this;have:=r2.fG;subst this;generalize hev:a.eval y=vy at ry
  cases ry with
  |iK _ _ b es ck hb hMb hk hv h3 h4=>
   obtain⟨q,h5,h6⟩:=Ov (P:=P) (k:=k) (l:=l) (p:=p) (s:=s) hkt hfs hf hg h0 h1 hn0 hn1 hst (es:=es.toList) hm (by simpa using hk) (by simpa using hv) (fun i x e hi hj=>h3 i x e hi (by simpa using hj)) (fun i x e hi hj=>h4 i x e hi (by simpa using hj))
   have hchk:∀em,(Instr.checkKey em 10000 kt (.agg #[.int k p,.int l s])).run P w= .ok () w:=fun em=>Sw hkt hfs hf hg h0 h1 hn0 hn1 em 9998
   have hobj:(getObj b).run P w= .ok (.map es ck) w:=by simp[getObj,Sem.run,hb]
   have hzero:∃v0,(zeroValue vt).run P w= .ok v0 w/\bg w (bs E S L) (S.gh L) (nz zv) v0:=by
    refine⟨z0,by simp[zeroValue,typeInfo,hi,hz0,Sem.run,program],?_⟩
    have:=Dl (w:=w) (M:=bs E S L) (G:=S.gh L) hz;unfold nz;split
    ·have e5:=this.pT;rw[e5];exact .slnil
    ·exact this
   obtain⟨v0,hz1,hz2⟩:=hzero;rcases h6 with⟨rfl,rfl⟩|⟨j,x,v,rfl,rfl,hx⟩
   ·cases ok
    ·refine Good.pure h (v:=v0) ?_ hz2;simp[execOp,ho,hev,hu,Instr.lookup,run_underlying ht,hobj,hchk,h5,hz1]
    ·refine Good.pure h (v:= .tuple #[v0,.bool false]) ?_ (.dO _ [v0,.bool false] rfl ?_)
     ·simp[execOp,ho,hev,hu,Instr.lookup,run_underlying ht,hobj,hchk,h5,hz1]
     ·exact(bf.cons hz2 (.cons (.bool _) .nil)).2
   ·have hx':bg w (bs E S L) (S.gh L) x v:=hx.mono (dI.of fun _ h=>h) (dj.le _)
    cases ok
    ·refine Good.pure h (v:=v) ?_ hx';simp[execOp,ho,hev,hu,Instr.lookup,run_underlying ht,hobj,hchk,h5]
    ·refine Good.pure h (v:= .tuple #[v,.bool true]) ?_ (.dO _ [v,.bool true] rfl ?_)
     ·simp[execOp,ho,hev,hu,Instr.lookup,run_underlying ht,hobj,hchk,h5]
     ·exact(bf.cons hx' (.cons (.bool _) .nil)).2
 ·cases he
theorem bg.closed{M M':Nat->Prop}{G G':Gh}{y:PV}{v:Value}(hc:y.closed=true)(hM:∀b,M' b->M b)(h:bg w M G y v):bg w M' G' y v:=by
 have hs:dI w w M M':=(dI.of fun _ hm=>fun h'=>hm (hM _ h'))
 cases h with
 |any=>simp[PV.closed]at hc
 |undef=>simp[PV.closed]at hc
 |int=>exact .int _ _
 |bool=>exact .bool _
 |gH=>first|exact .gH _|simp[PV.closed]at hc
 |str=>exact .str _
 |kJ=>exact .kJ
 |dR=>exact .dR
 |bG f cs vs hl h=>
  cases cs with
  |nil=>exact .bG f [] vs hl (fun i x v hx _=>by simp at hx)
  |cons=>simp[PV.closed]at hc
 |jk=>simp[PV.closed]at hc
 |agg=>simp[PV.closed]at hc
 |dO=>simp[PV.closed]at hc
 |ptr=>simp[PV.closed]at hc
 |ref cs ad vs hl hcell h=>exact .ref cs ad vs hl (fun i u hu=>⟨(hcell i u hu).1,fun h'=>(hcell i u hu).2 (hM _ h')⟩) (fun i p u hp hu=>(h i p u hp hu).mono hs (Gh.le.refl _))
 |sl es ad c k vs hk hl hcell h hn hm=>exact .sl es ad c k vs hk hl (fun i u hu=>⟨(hcell i u hu).1,fun h'=>(hcell i u hu).2 (hM _ h')⟩) (fun i p u hp hu=>(h i p u hp hu).mono hs (Gh.le.refl _)) hn hm
 |slnil=>exact .slnil
 |own=>simp[PV.closed]at hc
 |eQ=>simp[PV.closed]at hc
 |view=>simp[PV.closed]at hc
 |iK ks us b es ck hb hMb hk hv h1 h2=>exact .iK ks us b es ck hb (fun h'=>hMb (hM _ h')) hk hv (fun i p e hp he=>(h1 i p e hp he).mono hs (Gh.le.refl _)) (fun i p e hp he=>(h2 i p e hp he).mono hs (Gh.le.refl _))
theorem bf.closed{M M':Nat->Prop}{G G':Gh}{ys:List PV}{vs:List Value}(hc:ys.all PV.closed=true)(hM:∀b,M' b->M b)(h:bf w M G ys vs):bf w M' G' ys vs:=
 ⟨h.1,fun i y v hy hv=>(h.2 i y v hy hv).closed (QH.1 hc y (Q8 hy)) hM⟩
theorem bg.bD{M M':Nat->Prop}{G G':Gh}{y:PV}{v:Value}(hc:y.bD=true)(hM:∀b,M' b->M b)(h:bg w M G y v):bg w M' G' y v:=by
 cases y with
 |agg cs=>cases h with|agg _ vs hl h=>have:=bf.closed (G':=G') (by simpa[PV.bD]using hc) hM ⟨hl,h⟩;exact .agg cs vs this.1 this.2
 |dO cs=>cases h with|dO _ vs hl h=>have:=bf.closed (G':=G') (by simpa[PV.bD]using hc) hM ⟨hl,h⟩;exact .dO cs vs this.1 this.2
 |bG f cs=>cases h with|bG _ _ vs hl h=>have:=bf.closed (G':=G') (by simpa[PV.bD]using hc) hM ⟨hl,h⟩;exact .bG f cs vs this.1 this.2
 |_=>exact h.closed (by simpa[PV.bD]using hc) hM
theorem bg.uo{M M':Nat->Prop}{G G':Gh}{y:PV}{v:Value}(hc:y.uo=true)(hM:∀b,M' b->M b)(h:bg w M G y v):bg w M' G' y v:=by
 cases y with
 |dO cs=>cases h with|dO _ vs hl h=>exact .dO cs vs hl fun i y v hy hv=>(h i y v hy hv).bD (QH.1 (show cs.all PV.bD=true from hc) y (Q8 hy)) hM
 |_=>exact h.bD hc hM
theorem bg.plain{w':World}{M M':Nat->Prop}{G G':Gh}{y:PV}{v:Value}(hc:y.plain=true)(h:bg w M G y v):bg w' M' G' y v:=by
 cases h<;>simp[PV.plain]at hc<;>constructor
theorem bg.pd{w':World}{M M':Nat->Prop}{G G':Gh}{y:PV}{v:Value}(hc:y.pd=true)(h:bg w M G y v):bg w' M' G' y v:=by
 have go:∀{cs:List PV} {vs:List Value},cs.all PV.plain=true->bf w M G cs vs->bf w' M' G' cs vs:=fun hc h=>⟨h.1,fun i y v hy hv=>(h.2 i y v hy hv).plain (QH.1 hc y (Q8 hy))⟩
 cases y with
 |agg cs=>cases h with|agg _ vs hl h=>have:=go (by simpa[PV.pd]using hc) ⟨hl,h⟩;exact .agg cs vs this.1 this.2
 |_=>exact h.plain (by simpa[PV.pd]using hc)
theorem bg.s4{w':World}{M M':Nat->Prop}{G G':Gh}{y:PV}{v:Value}(hc:y.s4=true)(h:bg w M G y v):bg w' M' G' y v:=by
 cases y with
 |dO cs=>cases h with|dO _ vs hl h=>exact .dO cs vs hl fun i y v hy hv=>(h i y v hy hv).pd (QH.1 (show cs.all PV.pd=true from hc) y (Q8 hy))
 |_=>exact h.pd hc
theorem bf.plain{w':World}{M M':Nat->Prop}{G G':Gh}{ys:List PV}{vs:List Value}(hc:ys.all PV.plain=true)(h:bf w M G ys vs):bf w' M' G' ys vs:=
 ⟨h.1,fun i y v hy hv=>(h.2 i y v hy hv).plain (QH.1 hc y (Q8 hy))⟩
theorem vM{H:Nat->fT}{ex:Option Nat}{M M':Nat->Prop}{G:Gh}{y:PV}{v:Value}(hc:y.closed=true)(hM:∀b,M' b->M b)(h:bg w M G y v)(n:Nat):bg w M' dj (fz H ex n y) v:=by
 have hn:y= .dR\/fz H ex n y=y:=by
  cases y with
  |bG f cs=>
   cases cs with
   |nil=>right;cases n<;>simp[fz,PV.closed]
   |cons=>simp[PV.closed]at hc
  |_=>first|exact .inl rfl|(right;cases n<;>simp_all [fz,PV.closed])|(simp[PV.closed]at hc;done)
 rcases hn with rfl|hn
 ·have:=h.pT;subst this;cases n<;>exact .slnil
 ·rw[hn];exact h.closed hc hM
theorem MU{H:Nat->fT}{ex:Option Nat}{M M':Nat->Prop}{G:Gh}{y:PV}{v:Value}(hc:y.bD=true)(hM:∀b,M' b->M b)(h:bg w M G y v)(n:Nat):bg w M' dj (fz H ex (n+1) y) v:=by
 have go:∀{cs:List PV} {vs:List Value},cs.all PV.closed=true->bf w M G cs vs->bf w M' dj (cs.map (fz H ex n)) vs:=fun hc hr=>
  ⟨by simp[hr.1],fun i p u hp hu=>by
   rw[QT,Qb]at hp;obtain⟨q,hq,rfl⟩:=hp
   exact vM (QH.1 hc q (Q8 hq)) hM (hr.2 i q u hq hu) n⟩
 cases y with
 |agg cs=>obtain⟨vs,rfl,hr⟩:=h.n5;have:=go (by simpa[PV.bD]using hc) hr;simp only[fz];exact .agg _ _ this.1 this.2
 |dO cs=>obtain⟨vs,rfl,hr⟩:=h.Dv;have:=go (by simpa[PV.bD]using hc) hr;simp only[fz];exact .dO _ _ this.1 this.2
 |bG f cs=>obtain⟨vs,rfl,hr⟩:=h.w7;have:=go (by simpa[PV.bD]using hc) hr;simp only[fz];exact .bG _ _ _ this.1 this.2
 |_=>exact vM (by simpa[PV.bD]using hc) hM h (n+1)
theorem Rel.fz(h:Rel E S a w L){ex:Option Nat}{M:Nat->Prop}(hM:∀b,M b->bs E S L b)(hx:∀id b,id<S.N->(S.H id).c.live=true->some id≠ex->cq (L id)=some b->¬M b):
  ∀(n:Nat) {y:PV} {v:Value},bg w (bs E S L) (S.gh L) y v->bg w M dj (fz S.H ex n y) v
 |0,y,v,r=>by
  cases hc:y.closed with
  |true=>exact vM hc hM r 0
  |false=>
   have:TQ.fz S.H ex 0 y= .any:=by cases y<;>simp_all [TQ.fz,PV.closed]
   rw[this];exact .any _
 |n+1,y,v,r=>by
  have ih:=fun{y:PV} {v:Value} (r:bg w (bs E S L) (S.gh L) y v)=>h.fz hM hx n r
  have ihl:∀{cs:List PV} {vs:List Value},bf w (bs E S L) (S.gh L) cs vs->bf w M dj (cs.map (TQ.fz S.H ex n)) vs:=fun hr=>
   ⟨by simp[hr.1],fun i p u hp hu=>by
    rw[QT,Qb]at hp;obtain⟨q,hq,rfl⟩:=hp
    exact ih (hr.2 i q u hq hu)⟩
  cases y with
  |own id ao=>
   simp only[TQ.fz];split
   ·exact .any _
   ·rename_i hne;have hne':some id≠ex/\(S.H id).ao=ao:=⟨fun e=>hne (.inl e),Classical.not_not.1 fun e=>hne (.inr e)⟩
    split
    ·rename_i e k es hc;obtain⟨hN,hv⟩:=r.mK (show(S.gh L).V id=ao from hne'.2)
     obtain⟨vs,hown,hk,hr⟩:=h.kv hN hc;rw[hv,show(S.gh L).L id=L id from rfl]
     have hfl:(es.map fun e=>e.map (TQ.fz S.H ex n)).flatten=es.flatten.map (TQ.fz S.H ex n):=by rw[List.map_flatten]
     rcases hown.2 with⟨hL,h0⟩|⟨g,cap,cur,hL,_,hh,hnc,hcm,_⟩
     ·have:es=[]:=Qq67 h0;subst this;rw[hL];exact .slnil
     ·rw[hL];have hr2:=ihl hr;rw[<-hfl]at hr2;have hlen:es.length=(es.map fun e=>e.map (TQ.fz S.H ex n)).length:=by simp
      rw[hlen];refine .sl _ _ _ k vs (fun u hu=> ?_) hr2.1 (fun i u hu=>⟨hown.cells (g:=g) (by rw[hL];rfl) i u hu,hx id g hN (by rw[hc];rfl) hne'.1 (by rw[hL];rfl)⟩) hr2.2 (by simpa using hnc) hcm
      obtain⟨q,hq,rfl⟩:=QP.1 hu;simpa using hk q hq
    ·exact .any _
  |ptr id ao off=>
   simp only[TQ.fz];split
   ·exact .any _
   ·rename_i hne;have hne':some id≠ex/\(S.H id).ao=ao:=⟨fun e=>hne (.inl e),Classical.not_not.1 fun e=>hne (.inr e)⟩
    split
    ·rename_i cs hc;obtain⟨hN,_⟩:=r.sn (show(S.gh L).V id=ao from hne'.2)
     obtain⟨b,hv,hL⟩:=h.sZ r hne'.2 hc;obtain⟨b',cur,T,hL',hh,hr,_⟩:=h.rY hN hc;rw[hL]at hL';simp only[Value.pointer.injEq,Qf,Addr.mk.injEq]at hL';obtain⟨rfl,_⟩:=hL';rw[hv];have hr2:=(ihl hr).drop off;exact .ref _ _ _ hr2.1 (fun i u hu=>⟨by rw[add_mid];exact pz hh (gQ hu),hx id b hN (by rw[hc];rfl) hne'.1 (by rw[hL];rfl)⟩) hr2.2
    ·exact .any _
  |agg cs=>obtain⟨vs,rfl,hr⟩:=r.n5;have:=ihl hr;exact .agg _ _ this.1 this.2
  |dO cs=>obtain⟨vs,rfl,hr⟩:=r.Dv;have:=ihl hr;exact .dO _ _ this.1 this.2
  |bG f cs=>obtain⟨vs,rfl,hr⟩:=r.w7;have:=ihl hr;exact .bG _ _ _ this.1 this.2
  |dR=>exact vM rfl hM r (n+1)
  |_=>
   simp only[TQ.fz];split
   ·rename_i hc;exact r.closed hc hM
   ·exact .any _
theorem Bl(h:Rel E S a w L){b:Nat}(hb:bs E S L b):b<w.heap.size:=by
 rcases hb with⟨id,hid,hl,hb⟩|hb
 ·exact((h.obj id hid).xT hl hb).1
 ·exact QJ (E.hX b hb) h.fr.size
theorem bf.fz(h:Rel E S a w L){ex:Option Nat}{M:Nat->Prop}(hM:∀b,M b->bs E S L b)(hx:∀id b,id<S.N->(S.H id).c.live=true->some id≠ex->cq (L id)=some b->¬M b){args:List PV}{vs:List Value}
  (hr:bf w (bs E S L) (S.gh L) args vs):bf w M dj (args.map (TQ.fz S.H ex 9)) vs:=
 ⟨by simp[hr.1],fun i p u hp hu=>by
  rw[QT,Qb]at hp;obtain⟨q,hq,rfl⟩:=hp
  exact h.fz hM hx 9 (hr.2 i q u hq hu)⟩
theorem bf.bD{M M':Nat->Prop}{G G':Gh}{ys:List PV}{vs:List Value}(hc:ys.all PV.bD=true)(hM:∀b,M' b->M b)(h:bf w M G ys vs):bf w M' G' ys vs:=
 ⟨h.1,fun i y v hy hv=>(h.2 i y v hy hv).bD (QH.1 hc y (Q8 hy)) hM⟩
theorem bf.xN{H:Nat->fT}{ex:Option Nat}{M M':Nat->Prop}{G:Gh}{ys:List PV}{vs:List Value}(hc:ys.all PV.bD=true)(hM:∀b,M' b->M b)(h:bf w M G ys vs):bf w M' dj (ys.map (TQ.fz H ex 9)) vs:=
 ⟨by simp[h.1],fun i p u hp hu=>by
  rw[QT,Qb]at hp;obtain⟨q,hq,rfl⟩:=hp
  exact MU (QH.1 hc q (Q8 hq)) hM (h.2 i q u hq hu) 8⟩
theorem C1{es:List (List PV)}(h:zK es=true):es.flatten.all PV.closed=true:=by
 refine QH.2 fun y hy=> ?_
 obtain⟨u,hu,hyu⟩:=List.mem_flatten.1 hy;exact QH.1 (QH.1 h u hu) y hyu
theorem CZ{es:List (List PV)}(h:Gk es=true):es.flatten.all PV.plain=true:=by
 refine QH.2 fun y hy=> ?_
 obtain⟨u,hu,hyu⟩:=List.mem_flatten.1 hy;exact QH.1 (QH.1 h u hu) y hyu
theorem BE{w:World}{b:Nat}{e k:Nat}{v:Value}{n:Nat}{xs:List Value}(h:w.ownsRow b e k v n xs):w.ownsRow 0 e k v n xs:=by
 refine⟨h.1,?_⟩;rcases h.2 with h1|⟨g,cap,cur,h1,_,h3⟩
 ·exact .inl h1
 ·exact .inr ⟨g,cap,cur,h1,QS _,h3⟩
theorem PL{w w':World}{b:Nat}{e k:Nat}{v:Value}{n n':Nat}{xs ys:List Value}(h:w.ownsRow b e k v n xs)(h':w'.ownsRow 0 e k v n' ys):w'.ownsRow b e k v n' ys:=by
 refine⟨h'.1,?_⟩;rcases h'.2 with h1|⟨g,cap,cur,h1,_,h3⟩
 ·exact .inl h1
 ·refine .inr ⟨g,cap,cur,h1,?_,h3⟩;rcases h.2 with⟨h4,_⟩|⟨g',cap',cur',h4,h5,_⟩
  ·rw[h4]at h1;cases h1
  ·rw[h4]at h1;injection h1 with h1
   injection h1 with h1
   injection h1 with h1
   omega
theorem FA{w:World}{b:Nat}{e k:Nat}{v:Value}{n:Nat}{xs:List Value}(h:w.ownsRow b e k v n xs):∃ad n c,v= .slice ad n c:=by
 rcases h.2 with⟨rfl,_⟩|⟨g,cap,cur,rfl,_⟩
 ·exact⟨_,_,_,rfl⟩
 ·exact⟨_,_,_,rfl⟩
theorem CG{E:En}{w w':World}{b:Nat}{e k:Nat}{v u:Value}{n n':Nat}{xs ys:List Value}(h:w.ownsRow (gp E v) e k v n xs)(h':w'.ownsRow 0 e k u n' ys)(hs:E.w0.heap.size<=b)
  (hu:∀g,cq u=some g->cq v=some g\/b<=g):w'.ownsRow (gp E u) e k u n' ys:=by
 refine⟨h'.1,?_⟩;rcases h'.2 with h1|⟨g,cap,cur,h1,_,h3⟩
 ·exact .inl h1
 ·refine .inr ⟨g,cap,cur,h1,?_,h3⟩;have hbu:cq u=some g:=by rw[h1];rfl
  rcases hu g hbu with hv|hv
  ·rw[Al (v:=u) (v':=v) (by rw[hbu,hv])]
   rcases h.2 with⟨h4,_⟩|⟨g',cap',cur',h4,h5,_⟩
   ·rw[h4]at hv;cases hv
   ·rw[h4]at hv;simp only[cq,Qf]at hv;omega
  ·rw[Iv hbu (QK hs hv)];exact QK hs hv
theorem Tc(h:Rel E S a w L){id:Nat}(hN:id<S.N)(hlive:(S.H id).c.live=true){rest:List PV}{vs':List Value}(hr':bf w (bs E S L) (S.gh L) rest vs'):
  ∃X:Nat->Prop,(∀q,X q->q<w.heap.size)/\(∀b,cq (L id)=some b->¬X b)/\(∀q,Mv (L id) X q->bs E S L q)/\bf w (Mv (L id) X) dj (rest.map (TQ.fz S.H (some id) 9)) vs'/\(rest.all PV.bD=true->∀q,bs E S L q->Mv (L id) X q):=by
 have hmb:∀b,cq (L id)=some b->bs E S L b:=fun b hb=> .inl ⟨id,hN,hlive,hb⟩
 by_cases hall:rest.all PV.bD=true
 ·have hsub:∀q,Mv (L id) (fun q=>bs E S L q/\cq (L id)≠some q) q->bs E S L q:=by
   rintro q (hq|hq)
   ·exact hmb q hq
   ·exact hq.1
  refine⟨fun q=>bs E S L q/\cq (L id)≠some q,fun q hq=>Bl h hq.1,fun b hb hq=>hq.2 hb,hsub,hr'.xN hall hsub,fun _ q hq=> ?_⟩
  by_cases hb:cq (L id)=some q
  ·exact .inl hb
  ·exact .inr ⟨hq,hb⟩
 ·have hsub:∀q,Mv (L id) (fun _=>False) q->bs E S L q:=by
   rintro q (hq|hq)
   ·exact hmb q hq
   ·exact hq.elim
  refine⟨fun _=>False,fun _ hq=>hq.elim,fun _ _ hq=>hq,hsub,?_,fun hq=>absurd hq hall⟩
  refine hr'.fz h hsub (fun j q hj hjl hne hjb hq=> ?_)
  rcases hq with hq|hq
  ·exact hne (by rw[h.apart j id q hj hN hjl hlive hjb hq])
  ·exact hq
theorem adi{f:FuncId}{m:Model}{e k:Nat}(hrow:∀es args r es',m.rm es args=some (r,es')->VI P f e k es args r es')(h:Rel E S a w L){args:List PV}{vs:List Value}(hr:bf w (bs E S L) (S.gh L) args vs)(he:yZ m e k S args=some (x,wr)):
  Calls P f vs.toArray w (fun en w'=>∃v L',en= .returned v/\Rel E (S.fu wr) a w' L'/\bg w' (bs E (S.fu wr) L') ((S.fu wr).gh L') x v):=by
 unfold yZ at he;split at he
 case h_2=>cases he
 rename_i id ao rest;split at he
 case isFalse=>cases he
 rename_i hver;split at he
 case h_2=>cases he
 rename_i e' k' es hc;split at he
 case isFalse=>cases he
 rename_i hek;obtain⟨rfl,rfl,hok⟩:=hek;split at he
 case h_2=>cases he
 rename_i r es' hmm;split at he
 case isFalse=>cases he
 rename_i hcond;obtain⟨rfl,rfl⟩:=bR he;simp only[Qm,Qn]at hcond;obtain⟨⟨hc1,hc2⟩,hc3⟩:=hcond;obtain⟨v0,vs',rfl,r0,hr'⟩:=hr.cons_inv;obtain⟨hN,hv0⟩:=r0.mK (show(S.gh L).V id=ao from hver)
 have hv0:v0=L id:=hv0;subst hv0;have hlive:(S.H id).c.live=true:=by rw[hc];rfl
 obtain⟨us,hown,hk,hru⟩:=h.kv hN hc;obtain⟨X,hX,hXn,hsub,hargs,hsup⟩:=Tc h hN hlive hr';refine(hrow es _ r es' hmm w X hX (L id) vs' hXn ⟨us,BE hown,hk,hru.closed (C1 hok) hsub⟩ hargs).mono ?_;rintro en w' ⟨u,rfl,hrep,⟨us',hown',hk',hru'⟩,hfr⟩
 have hmm':∀q,bs E {S with H:=bO S.H id ⟨ao,.row e' k' es'⟩} (bO L id (L id)) q->bs E S L q:=by
  rintro q (⟨j,hj,hjl,hjb⟩|hq)
  ·simp only at hj hjl;have:bO L id (L id) j=L j:=by by_cases hji:j=id<;>simp[bO,hji]
   rw[this]at hjb
   by_cases hji:j=id
   ·subst hji;exact .inl ⟨j,hj,hlive,hjb⟩
   ·rw[cD _ _ hji]at hjl;exact .inl ⟨j,hj,hjl,hjb⟩
  ·exact .inr hq
 have hst:rest.all PV.bD=true->dI w' w' (Mv (L id) X) (bs E {S with H:=bO S.H id ⟨ao,.row e' k' es'⟩} (bO L id (L id))):=fun hall=>(dI.of fun _ hnm=>fun hq=>hnm (hsup hall _ (hmm' _ hq)))
 obtain⟨h2,hs2,hg2⟩:=h.sW (w':=w') (hdr:=hfr.drawn) hN ⟨ao,.row e' k' es'⟩ (L id) (.inl ⟨hver.symm,rfl,hlive⟩) hfr.os hfr.tape hfr.output hfr.size
  (fun q hq hne=>hfr.block q hq (hne hlive)) (fun q _ hq=> .inl ⟨hlive,hq⟩)
  (fun hs2 hg2=>⟨us',PL hown hown',hk',by
   rcases hc3 with hpl|hall
   ·exact hru'.plain (CZ hpl)
   ·exact hru'.mono (hst hall) (dj.le _)⟩)
 refine⟨u,_,rfl,h2,?_⟩;rcases hc1 with hpl|hall
 ·exact hrep.s4 hpl
 ·exact hrep.mono (hst hall.1) (dj.le _)
theorem adg{f:FuncId}{m:Model}{e k:Nat}(hrow:∀es args r es',m.rm es args=some (r,es')->J2 P f e k es args es')(h:Rel E S a w L){args:List PV}{vs:List Value}(hr:bf w (bs E S L) (S.gh L) args vs)(he:yY m e k S args=some (x,wr)):
  Calls P f vs.toArray w (fun en w'=>∃v L',en= .returned v/\Rel E (S.fu wr) a w' L'/\bg w' (bs E (S.fu wr) L') ((S.fu wr).gh L') x v):=by
 unfold yY at he;split at he
 case h_2=>cases he
 rename_i id ao rest;split at he
 case isFalse=>cases he
 rename_i hver;split at he
 case h_2=>cases he
 rename_i e' k' es hc;split at he
 case isFalse=>cases he
 rename_i hek;obtain⟨rfl,rfl,hok⟩:=hek;split at he
 case h_2=>cases he
 rename_i r es' hmm;split at he
 case isFalse=>cases he
 rename_i hcond;obtain⟨rfl,rfl⟩:=bR he;simp only[Qm,Qn]at hcond;obtain⟨hc2,hc3⟩:=hcond;obtain⟨v0,vs',rfl,r0,hr'⟩:=hr.cons_inv;obtain⟨hN,hv0⟩:=r0.mK (show(S.gh L).V id=ao from hver)
 have hv0:v0=L id:=hv0;subst hv0;have hlive:(S.H id).c.live=true:=by rw[hc];rfl
 obtain⟨us,hown,hk,hru⟩:=h.kv hN hc;obtain⟨X,hX,hXn,hsub,hargs,hsup⟩:=Tc h hN hlive hr';refine(hrow es _ r es' hmm w X hX (L id) vs' hXn ⟨us,BE hown,hk,hru.closed (C1 hok) hsub⟩ hargs).mono ?_;rintro en w' ⟨u,rfl,⟨us',hown',hk',hru'⟩,hub,hfr⟩
 have hEX:∀q,E.X q->cq (L id)≠some q:=by
  intro q hq hb;rcases hown.2 with⟨h4,_⟩|⟨g',cap',cur',h4,h5,_⟩
  ·rw[h4]at hb;cases hb
  ·have hbg:cq (L id)=some g':=by rw[h4];rfl
   rw[hb]at hbg;injection hbg with hbg
   subst hbg;rcases Ew hb h5 with⟨h6,h7⟩|h6
   ·exact E.Rg h6 q h7 hq
   ·have:=E.hX q hq;omega
 have hst:rest.all PV.bD=true->dI w' w' (Mv u X) (bs E {S with H:=bO S.H id ⟨ao+1,.row e' k' es'⟩} (bO L id u)):=by
  intro hall;refine(dI.of fun _ hnm=>fun hq=>hnm ?_)
  rcases hq with⟨j,hj,hjl,hjb⟩|hq
  ·simp only at hj hjl
   by_cases hji:j=id
   ·subst hji;rw[cr]at hjb;exact .inl hjb
   ·rw[cD _ _ hji]at hjl hjb;rcases hsup hall _ (.inl ⟨j,hj,hjl,hjb⟩)with hq|hq
    ·exact absurd (h.apart j id _ hj hN hjl hlive hjb hq) hji
    ·exact .inr hq
  ·rcases hsup hall _ (.inr hq)with hq'|hq'
   ·exact absurd hq' (hEX _ hq)
   ·exact .inr hq'
 obtain⟨h2,hs2,hg2⟩:=h.sW (w':=w') (hdr:=hfr.drawn) hN ⟨ao+1,.row e' k' es'⟩ u (.inr (by show(S.H id).ao<ao+1;omega)) hfr.os hfr.tape hfr.output hfr.size
  (fun q hq hne=>hfr.block q hq (hne hlive)) (fun q _ hq=>(hub q hq).imp (fun hb=>⟨hlive,hb⟩) (fun hb=>hb))
  (fun hs2 hg2=>⟨us',CG hown hown' h.fr.size hub,hk',by
   rcases hc3 with hpl|hall
   ·exact hru'.plain (CZ hpl)
   ·exact hru'.mono (hst hall) (dj.le _)⟩)
 obtain⟨ad,n,c,hu⟩:=FA hown';refine⟨u,_,rfl,h2,?_⟩;subst hu;exact .own _ _ _ _ _ hN (by simp[St.gh,St.fu,cr]) (fun _=>by simp[St.gh,St.fu,cr])
theorem ac2{f:FuncId}{m:Model}{e k:Nat}(hrow:∀args r es',m.rm [] args=some (r,es')->Si P f args e k es')(h:Rel E S a w L)(hn:nid<S.N){args:List PV}{vs:List Value}(hr:bf w (bs E S L) (S.gh L) args vs)(he:D0 m e k nid S args=some (x,wr)):
  Calls P f vs.toArray w (fun en w'=>∃v L',en= .returned v/\Rel E (S.fu wr) a w' L'/\bg w' (bs E (S.fu wr) L') ((S.fu wr).gh L') x v):=by
 unfold D0 at he;split at he
 case h_2=>cases he
 rename_i r es' hmm;split at he
 case isFalse=>cases he
 rename_i hcond;obtain⟨rfl,rfl⟩:=bR he;simp only[Qm,Qn]at hcond;obtain⟨hc2,hc3⟩:=hcond
 have key:∃X:Nat->Prop,(∀q,X q->q<w.heap.size)/\bf w X dj (args.map (TQ.fz S.H none 9)) vs/\(args.all PV.bD=true->∀q,bs E S L q->X q):=by
  by_cases hall:args.all PV.bD=true
  ·exact⟨bs E S L,fun q hq=>Bl h hq,hr.xN hall (fun q hq=>hq),fun _ q hq=>hq⟩
  ·exact⟨fun _=>False,fun _ hq=>hq.elim,hr.fz h (fun q hq=>hq.elim) (fun j q hj hjl hne hjb hq=>hq),fun hq=>absurd hq hall⟩
 obtain⟨X,hX,hargs,hsup⟩:=key;refine(hrow _ r es' hmm w X hX vs hargs).mono ?_;rintro en w' ⟨u,rfl,⟨us',hown',hk',hru'⟩,hub,hfr⟩
 have hst:args.all PV.bD=true->dI w' w' (Mv u X) (bs E {S with H:=bO S.H nid ⟨(S.H nid).ao+1,.row e k es'⟩} (bO L nid u)):=by
  intro hall;refine(dI.of fun _ hnm=>fun hq=>hnm ?_)
  rcases hq with⟨j,hj,hjl,hjb⟩|hq
  ·simp only at hj hjl
   by_cases hji:j=nid
   ·subst hji;rw[cr]at hjb;exact .inl hjb
   ·rw[cD _ _ hji]at hjl hjb;exact .inr (hsup hall _ (.inl ⟨j,hj,hjl,hjb⟩))
  ·exact .inr (hsup hall _ (.inr hq))
 obtain⟨h2,hs2,hg2⟩:=h.sW (w':=w') (hdr:=hfr.drawn) hn ⟨(S.H nid).ao+1,.row e k es'⟩ u (.inr (Nat.lt_succ_self _)) hfr.os hfr.tape hfr.output hfr.size
  (fun q hq _=>hfr.block q hq (by simp)) (fun q _ hq=> .inr (hub q hq))
  (fun hs2 hg2=>⟨us',CG (v:= .slice none 0 0) (World.ownsRow_nil w _ _ _) hown' h.fr.size (fun g hg=> .inr (hub g hg)),hk',by
   rcases hc3 with hpl|hall
   ·exact hru'.plain (CZ hpl)
   ·exact hru'.mono (hst hall) (dj.le _)⟩)
 obtain⟨ad,n,c,hu⟩:=FA hown';refine⟨u,_,rfl,h2,?_⟩;subst hu;exact .own _ _ _ _ _ hn (by simp[St.gh,St.fu,cr]) (fun _=>by simp[St.gh,St.fu,cr])
theorem bf.abx{M:Nat->Prop}{G:Gh}{args:List PV}{vs:List Value}(hr:bf w M G args vs){p:Nat}{y:PV}(hp:args[p]?=some y):
  ∃v0,bg w M G y v0/\bf w M G (cutAt p args) (cutAt p vs)/\jg p [v0] (cutAt p vs)=vs:=by
 obtain⟨v0,hv0,hrep⟩:=hr.get hp;refine⟨v0,hrep,(hr.take p).append (hr.drop (p+1)),?_⟩;have hlt:p<vs.length:=(Qw.1 hv0).1;have ht:(vs.take p).length=p:=by simp;omega
 have e1:(cutAt p vs).take p=vs.take p:=by
  unfold cutAt;rw[List.take_append_of_le_length (by omega)]
  rw[List.take_take,Nat.min_self]
 have e2:(cutAt p vs).drop p=vs.drop (p+1):=by
  unfold cutAt;rw[List.drop_append_of_le_length (by omega)]
  rw[List.drop_of_length_le (by omega),List.nil_append]
 unfold jg;rw[e1,e2]
 have h3:vs.drop p=v0::vs.drop (p+1):=by
  rw[QM hlt];congr 1;rw[Qv hlt]at hv0;injection hv0
 rw[QL,List.singleton_append,<-h3,List.take_append_drop]
theorem M1(hΓ:nQ P Γ)(h:Rel E S a w L)(hn:nid<S.N){f:FuncId}{args:List PV}{vs:List Value}(hr:bf w (bs E S L) (S.gh L) args vs)(he:mw Γ nid S f args=some (x,wr)):
  Enters P f/\Calls P f vs.toArray w (fun e w'=>∃v L',e= .returned v/\Rel E (S.fu wr) a w' L'/\bg w' (bs E (S.fu wr) L') ((S.fu wr).gh L') x v):=by
 unfold mw at he;split at he
 ·cases he
 ·rename_i m hm;obtain⟨hen,hcon,hconN,hrow,hro⟩:=hΓ f m hm;refine⟨hen,?_⟩;split at he
  ·rename_i e k hrk;rw[Fq,hrk]at hrow;exact adi hrow h hr he
  ·rename_i e k hrk;rw[Fq,hrk]at hrow;exact adg hrow h hr he
  ·rename_i e k hrk;rw[Fq,hrk]at hrow;exact ac2 hrow h hn hr he
  split at he
  ·rename_i hfresh;split at he
   ·rename_i r0 cs hmm;split at he
    ·rename_i hcond;obtain⟨rfl,rfl⟩:=bR he;simp only[Qm,Qn]at hcond;obtain⟨hc1,hc2⟩:=hcond
     have key:∃X:Nat->Prop,(∀q,X q->q<w.heap.size)/\bf w X dj (args.map (TQ.fz S.H none 9)) vs/\(args.all PV.bD=true->∀q,bs E S L q->X q):=by
      by_cases hall:args.all PV.bD=true
      ·exact⟨bs E S L,fun q hq=>Bl h hq,hr.xN hall (fun q hq=>hq),fun _ q hq=>hq⟩
      ·exact⟨fun _=>False,fun _ hq=>hq.elim,hr.fz h (fun q hq=>hq.elim) (fun j q hj hjl hne hjb hq=>hq),fun hq=>absurd hq hall⟩
     obtain⟨X,hX,hargs,hsup⟩:=key;refine(hconN hfresh _ _ _ hmm w X hX vs hargs).mono ?_;rintro e w' ⟨b,rvs,T,rfl,hbge,hh,hrc,hfr⟩
     have hmq:args.all PV.bD=true->∀q,bs E {S with H:=bO S.H nid ⟨(S.H nid).ao+1,.box cs⟩} (bO L nid (.pointer (some ⟨b,0,none⟩))) q->X q\/q=b:=by
      rintro hall q (⟨j,hj,hjl,hjb⟩|hq)
      ·simp only at hj hjl
       by_cases hji:j=nid
       ·subst hji;rw[cr]at hjb;simp only[cq,Qf]at hjb;exact .inr hjb.symm
       ·rw[cD _ _ hji]at hjl hjb;exact .inl (hsup hall q (.inl ⟨j,hj,hjl,hjb⟩))
      ·exact .inl (hsup hall q (.inr hq))
     obtain⟨h2,hs2,hg2⟩:=h.sW (w':=w') (hdr:=hfr.drawn) hn ⟨(S.H nid).ao+1,.box cs⟩ (.pointer (some ⟨b,0,none⟩)) (.inr (Nat.lt_succ_self _)) hfr.os hfr.tape hfr.output hfr.size (fun q hq _=>hfr.block q hq (by simp))
      (fun q _ hq=> .inr (by simp only[cq,Qf]at hq;omega))
      (fun hs2 hg2=>⟨b,rvs.toArray,T,rfl,hh,.inr (QK h.fr.size hbge),by
       simp only;rcases hc2 with hpl|hall
       ·exact hrc.plain hpl
       ·exact hrc.mono (dI.of fun _ hn' hq=>hn' (hmq hall _ hq)) (dj.le _)⟩)
     refine⟨_,_,rfl,h2,?_⟩;exact .ptr _ _ _ _ hn (by simp[St.gh,St.fu,cr]) (fun _=>by simp[St.gh,St.fu,cr,cq])
    ·cases he
   ·cases he
  rename_i hnf;have hnf':m.fresh=false:=by simpa using hnf
  have hcon:=hcon hnf';split at he
  ·rename_i hrecv;split at he
   ·rename_i id ao hpos;generalize hrest:cutAt m.pos args=rest at he;split at he
    ·rename_i hver;split at he
     ·rename_i cs hc;split at he
      ·rename_i hcl;split at he
       ·rename_i r cs' hmm;split at he
        ·rename_i hcond;obtain⟨rfl,rfl⟩:=bR he
         have hwr:S.fu (if(m.ro&&cs.all PV.PR)=true then none else some (id,(⟨ao,.box cs'⟩:fT)))=S.fu (some (id,⟨ao,.box cs'⟩)):=by
          split
          ·rename_i hq;rw[Qm]at hq
           have e1:cs.map TQ.nz=cs:=by
            rw[Qq71 (g:=fun y=>y) fun y hy=>by have:=QH.1 hq.2 y hy;cases y<;>first|rfl|cases this]
            simp
           have e2:=hro hq.1 _ _ _ _ hmm;rw[e1]at e2;rw[e2];show S={S with H:=bO S.H id ⟨ao,.box cs⟩}
           have e3:(⟨ao,.box cs⟩:fT)=S.H id:=by rw[<-hver,<-hc]
           rw[e3]
           have e4:bO S.H id (S.H id)=S.H:=by
            funext j;unfold bO;split
            ·rename_i e;rw[e]
            ·rfl
           rw[e4]
          ·rfl
         rw[hwr];simp only[Qm,Qn]at hcond;obtain⟨⟨⟨hc1,hc2⟩,hc3⟩,hc4⟩:=hcond;obtain⟨v0,r0,hr',hins⟩:=hr.abx hpos;rw[hrest]at hr';generalize cutAt m.pos vs=vs' at hr' hins;obtain⟨hN,_⟩:=r0.sn (show(S.gh L).V id=ao from hver)
         obtain⟨b,hv0,hL⟩:=h.sZ r0 hver hc;obtain⟨b',cur,T,hL',hh,hrc,hE⟩:=h.rY hN hc;rw[hL]at hL';simp only[Value.pointer.injEq,Qf,Addr.mk.injEq]at hL';obtain⟨rfl,_⟩:=hL';have hmb:bs E S L b:= .inl ⟨id,hN,by rw[hc];rfl,by rw[hL];rfl⟩
         have key:∃X:Nat->Prop,(∀q,X q->q<w.heap.size)/\(∀q,Mc true b X q->bs E S L q)/\bf w (Mc true b X) dj (rest.map (TQ.fz S.H (some id) 9)) vs'/\(rest.all PV.bD=true->∀q,bs E S L q->Mc true b X q):=by
          by_cases hall:rest.all PV.bD=true
          ·refine⟨bs E S L,fun q hq=>Bl h hq,fun q hq=> ?_,?_,fun _ q hq=> .inr hq⟩
           ·rcases hq with⟨_,rfl⟩|hq
            ·exact hmb
            ·exact hq
           ·exact hr'.xN hall (fun q hq=>by
             rcases hq with⟨_,rfl⟩|hq
             ·exact hmb
             ·exact hq)
          ·refine⟨fun _=>False,fun _ hq=>hq.elim,fun q hq=> ?_,?_,fun hq=>absurd hq hall⟩
           ·rcases hq with⟨_,rfl⟩|hq
            ·exact hmb
            ·exact hq.elim
           ·refine hr'.fz h (fun q hq=> ?_) (fun j q hj hjl hne hjb hq=> ?_)
            ·rcases hq with⟨_,rfl⟩|hq
             ·exact hmb
             ·exact hq.elim
            ·rcases hq with⟨_,rfl⟩|hq
             ·exact hne (by rw[h.apart j id q hj hN hjl (by rw[hc];rfl) hjb (by rw[hL];rfl)])
             ·exact hq
         obtain⟨X,hX,hsub,hargs,hsup⟩:=key;have hcall:=hcon (cs.map TQ.nz) (rest.map (TQ.fz S.H (some id) 9)) r cs' hmm w X hX b T cur.toList vs' (fun _=>⟨by simpa using hh,by rw[hrecv];exact(hrc.closed hcl hsub).nz⟩) (by rw[hrecv];exact hargs)
         rw[hrecv]at hcall;have hargsv:(jg m.pos (sM true b) vs').toArray=vs.toArray:=by rw[<-hins,hv0];rfl
         rw[hargsv]at hcall;refine hcall.mono ?_;rintro e w' ⟨v,rvs',rfl,hrep,hrv,hfr⟩;obtain⟨⟨T',hh'⟩,hrc'⟩:=hrv rfl;simp only[Qt]at hfr
         have hmm':∀q,bs E {S with H:=bO S.H id ⟨ao,.box cs'⟩} (bO L id (L id)) q->bs E S L q:=by
          rintro q (⟨j,hj,hjl,hjb⟩|hq)
          ·simp only at hj hjl;have:bO L id (L id) j=L j:=by by_cases hji:j=id<;>simp[bO,hji]
           rw[this]at hjb
           by_cases hji:j=id
           ·subst hji;exact .inl ⟨j,hj,by rw[hc];rfl,hjb⟩
           ·rw[cD _ _ hji]at hjl;exact .inl ⟨j,hj,hjl,hjb⟩
          ·exact .inr hq
         have hst:rest.all PV.bD=true->dI w' w' (Mc true b X) (bs E {S with H:=bO S.H id ⟨ao,.box cs'⟩} (bO L id (L id))):=fun hall=>(dI.of fun _ hnm=>fun hq=>hnm (hsup hall _ (hmm' _ hq)))
         obtain⟨h2,hs2,hg2⟩:=h.sW (w':=w') (hdr:=hfr.drawn) hN ⟨ao,.box cs'⟩ (L id) (.inl ⟨hver.symm,rfl,by rw[hc];rfl⟩) hfr.os hfr.tape hfr.output hfr.size
          (fun q hq hne=>hfr.block q hq (fun eq=>hne (by rw[hc];rfl) (by rw[hL];exact eq)))
          (fun q _ hq=> .inl ⟨by rw[hc];rfl,hq⟩)
          (fun hs2 hg2=>⟨b,rvs'.toArray,T',hL,hh',hE,by
           simp only;rcases hc4 with hpl|hall
           ·exact hrc'.plain hpl
           ·exact hrc'.mono (hst hall) (dj.le _)⟩)
         refine⟨v,_,rfl,h2,?_⟩;rcases hc1 with hpl|hall
         ·exact hrep.s4 hpl
         ·exact hrep.mono (hst hall) (dj.le _)
        ·cases he
       ·cases he
      ·cases he
     ·cases he
    ·cases he
   ·cases he
  ·rename_i hrecv;split at he
   ·rename_i r cs' hmm;split at he
    ·rename_i hcond;obtain⟨rfl,rfl⟩:=bR he;simp only[Qn,Qm]at hcond;have hrecv':m.recv=false:=by simpa using hrecv
     have key:∃X:Nat->Prop,(∀q,X q->q<w.heap.size)/\bf w (Mc false 0 X) dj (args.map (TQ.fz S.H none 9)) vs/\(args.all PV.bD=true->∀q,bs E S L q->Mc false 0 X q):=by
      by_cases hall:args.all PV.bD=true
      ·refine⟨bs E S L,fun q hq=>Bl h hq,?_,fun _ q hq=> .inr hq⟩
       exact hr.xN hall (fun q hq=>by
        rcases hq with⟨hq,_⟩|hq
        ·cases hq
        ·exact hq)
      ·refine⟨fun _=>False,fun _ hq=>hq.elim,?_,fun hq=>absurd hq hall⟩
       refine hr.fz h (fun q hq=> ?_) (fun j q hj hjl hne hjb hq=> ?_)
       ·rcases hq with⟨hq,_⟩|hq
        ·cases hq
        ·exact hq.elim
       ·rcases hq with⟨hq,_⟩|hq
        ·cases hq
        ·exact hq
     obtain⟨X,hX,hargs,hsup⟩:=key;have hcall:=hcon [] (args.map (TQ.fz S.H none 9)) r cs' hmm w X hX 0 0 [] vs (fun hq=>by rw[hrecv']at hq;cases hq) (by rw[hrecv'];exact hargs)
     rw[hrecv']at hcall;simp only[sM,Qq,Qu,NW]at hcall;refine hcall.mono ?_;rintro e w' ⟨v,rvs',rfl,hrep,_,hfr⟩;simp only[Qq,Qu]at hfr;obtain⟨h2,hs2⟩:=h.grow (w':=w') hfr.os hfr.tape hfr.output hfr.size (fun q hq=>hfr.block q hq (by simp)) hfr.drawn
     refine⟨v,L,rfl,h2,?_⟩;rcases hcond with hpl|⟨hall,_⟩
     ·exact hrep.s4 hpl
     ·exact hrep.mono (dI.of fun _ hnm=>fun hq=>hnm (hsup hall _ hq)) (dj.le _)
    ·cases he
   ·cases he
end
end
section
open Go.RowKit
section
variable {P : Program} {E : En} {S : St} {a : Act} {w : World} {L : Nat -> Value} {o : Oper} {x : PV} {wr : Option (Nat × fT)} {Γ : ow} {nid : Nat} {hs : List Nat}
theorem Ed{α:Type}(f:Nat->α)(i:Nat):bO f i (f i)=f:=by
 funext j;unfold bO;split
 ·rename_i h;rw[h]
 ·rfl
theorem Rel.kill(h:Rel E S a w L){id:Nat}(hid:id<S.N)(hl:(S.H id).c.live=true):Rel E {S with H:=bO S.H id ⟨(S.H id).ao,.dead⟩} a w L:=by
 have:=(h.sW (w':=w) hid ⟨(S.H id).ao,.dead⟩ (L id) (.inl ⟨rfl,rfl,hl⟩) rfl rfl rfl (QI _) (fun _ _ _=>rfl) (fun b hl=>by cases hl) (fun _ _=>trivial)).1
 rwa [Ed]at this
theorem Rel.ac0(h:Rel E S a w L){id e k:Nat}{es:List (List PV)}(hN:id<S.N)(hc:(S.H id).c= .row e k es)(hcl:∀u∈es,u.all PV.closed=true):
  Rel E {S with H:=bO S.H id ⟨(S.H id).ao,.dead⟩} a w L/\∀v,v=L id->bg w (bs E {S with H:=bO S.H id ⟨(S.H id).ao,.dead⟩} L) (St.gh {S with H:=bO S.H id ⟨(S.H id).ao,.dead⟩} L) (.sl es) v:=by
 have hlive:(S.H id).c.live=true:=by rw[hc];rfl
 refine⟨h.kill hN hlive,fun v hv=> ?_⟩
 obtain⟨vs,hown,hk,hr⟩:=h.kv hN hc;rw[hv]
 have hM:∀b,bs E {S with H:=bO S.H id ⟨(S.H id).ao,.dead⟩} L b->bs E S L b/\(cq (L id)=some b->E.X b):=by
  rintro b (⟨j,hj,hlv,hb⟩|hx)
  ·simp only at hj hlv
   by_cases hji:j=id
   ·subst hji;rw[cr]at hlv;cases hlv
   ·rw[cD _ _ hji]at hlv;exact⟨.inl ⟨j,hj,hlv,hb⟩,fun hb'=>absurd (h.apart j id b hj hN hlv hlive hb hb') hji⟩
  ·exact⟨.inr hx,fun _=>hx⟩
 rcases hown.2 with⟨hL,h0⟩|⟨g,cap,cur,hL,hb1,hh,hnc,hcm,_⟩
 ·have:es=[]:=Qq67 h0;subst this;rw[hL];exact .slnil
 ·rw[hL]
  have hcf:es.flatten.all PV.closed=true:=by
   refine QH.2 fun y hy=> ?_
   obtain⟨u,hu,hyu⟩:=List.mem_flatten.1 hy;exact QH.1 (hcl u hu) y hyu
  have hr2:=bf.closed (M':=bs E {S with H:=bO S.H id ⟨(S.H id).ao,.dead⟩} L) (G':=dj) hcf (fun b hb=>(hM b hb).1) hr
  refine .sl _ _ _ k vs hk hr2.1 (fun i u hu=>⟨hown.cells (g:=g) (by rw[hL];rfl) i u hu,fun hm=> ?_⟩) hr2.2 (by simpa using hnc) hcm
  have hxg:=(hM g hm).2 (by rw[hL];rfl)
  have hbg:cq (L id)=some g:=by rw[hL];rfl
  rcases Ew hbg hb1 with⟨h6,h7⟩|h6
  ·exact E.Rg h6 g h7 hxg
  ·have:=E.hX g hxg;omega
theorem Rel.FD(h:Rel E S a w L){id e k:Nat}{es:List (List PV)}{v:Value}(r:bg w (bs E S L) (S.gh L) (.own id (S.H id).ao) v)(hc:(S.H id).c= .row e k es)(hcl:∀u∈es,u.all PV.closed=true):
  Rel E {S with H:=bO S.H id ⟨(S.H id).ao,.dead⟩} a w L/\bg w (bs E {S with H:=bO S.H id ⟨(S.H id).ao,.dead⟩} L) (St.gh {S with H:=bO S.H id ⟨(S.H id).ao,.dead⟩} L) (.sl es) v:=by
 obtain⟨hN,hv⟩:=r.mK (show(S.gh L).V id=(S.H id).ao from rfl)
 obtain⟨h1,h2⟩:=h.ac0 hN hc hcl;exact⟨h1,h2 v hv⟩
theorem Y7{e k b:Nat}{s y:bo}(he:exec Γ nid S (.cQ true e k b s y)=some (x,wr)):∃id ao es,exec Γ nid S (.cQ false e k b s y)=some (.own id ao,some (id,⟨ao,.row e k es⟩))/\x= .sl es/\wr=some (id,⟨ao,.dead⟩)/\∀u∈es,u.all PV.closed=true:=by
 have key:∀{id ao:Nat} {es:List (List PV)},G9 true id ao e k es=some (x,wr)->∃id' ver' es',G9 false id ao e k es=some (.own id' ver',some (id',⟨ver',.row e k es'⟩))/\x= .sl es'/\wr=some (id',⟨ver',.dead⟩)/\∀u∈es',u.all PV.closed=true:=by
  intro id ao es h;simp only[G9]at h;split at h
  ·rename_i hall;obtain⟨rfl,rfl⟩:=bR h;exact⟨id,ao,es,rfl,rfl,rfl,fun u hu=>QH.1 hall u hu⟩
  ·cases h
 simp only[exec]at he ⊢;split at he
 ·rename_i news hn;split at he
  ·rename_i hall;simp only[hall,Qt];split at he
   ·split at he
    ·rename_i hb;rw[Qr hb];exact key he
    ·cases he
   ·rename_i id ao hv;split at he
    ·rename_i hver;rw[Qr hver];split at he
     ·rename_i e' k' es hc;split at he
      ·rename_i hb;simp only[Qr hb];exact key he
      ·cases he
     ·cases he
    ·cases he
   ·cases he
  ·cases he
 ·cases he
theorem Good.FD{id ao e k:Nat}{es:List (List PV)}(h:Good P E S a w o (.own id ao) (some (id,⟨ao,.row e k es⟩)))(hcl:∀u∈es,u.all PV.closed=true):Good P E S a w o (.sl es) (some (id,⟨ao,.dead⟩)):=by
 obtain⟨nx,w',L',v,h1,h2,h3,h4⟩:=h;have hH:(S.fu (some (id,⟨ao,.row e k es⟩))).H id=⟨ao,.row e k es⟩:=cr _ _ _;have hv:((S.fu (some (id,⟨ao,.row e k es⟩))).H id).ao=ao:=by rw[hH]
 have hc:((S.fu (some (id,⟨ao,.row e k es⟩))).H id).c= .row e k es:=by rw[hH]
 generalize hS:S.fu (some (id,⟨ao,.row e k es⟩))=S1 at h3 h4 hH hv hc;rw[<-hv]at h3;obtain⟨g1,g2⟩:=h4.FD h3 hc hcl;rw[hv,<-hS]at g1 g2
 have e1:({S.fu (some (id,⟨ao,.row e k es⟩))with H:=bO (S.fu (some (id,⟨ao,.row e k es⟩))).H id ⟨ao,.dead⟩}:St)=S.fu (some (id,⟨ao,.dead⟩)):=by
  unfold St.fu;simp only[St.mk.injEq,true_and,and_true]
  funext j
  unfold bO;split<;>rfl
 rw[e1]at g1 g2;exact⟨nx,w',L',v,h1,h2,g2,g1⟩
theorem qv{f:FuncId}(hen:Enters P f)(args:Array Value):(callFunc f args).run P w= .ok (.enter f args) w:=by
 obtain⟨fn,hf,hb,hn⟩:=hen;have hb':¬fn.body=none:=by intro e;rw[e]at hb;cases hb
 have hn':¬fn.name= "runtime.NumGoroutine":=by simpa using hn
 simp[callFunc,program,Sem.run,hf,hb',hn']
theorem M0{f:FuncId}{args:Array Value}(hrun:(execOp a.eval o).run P w= .ok (.enter f args) w)
  (hcall:Calls P f args w (fun e w'=>∃v L',e= .returned v/\Rel E (S.fu wr) a w' L'/\bg w' (bs E (S.fu wr) L') ((S.fu wr).gh L') x v)) (hnd:HU o) (hd:∀t,o.dst=some t->E.can t) {K:Act->World->Prop} {Q:Exit->Act->World->Prop}
  (hK:∀a' w' L',Rel E (S.cQ o.dst x wr) a' w' L'->K a' w'):o.wpIn (WF E.rd) 0 P a w K Q:=by
 unfold Oper.wpIn;rw[Oper.semAt_eq _ _ _ hnd,hrun];refine⟨fun _ _=>trivial,(fun h=>by cases h),LJ.2 (Calls.mono hcall ?_)⟩
 rintro e w' ⟨v,L',rfl,h1,h2⟩;exact hK _ _ _ (show Rel E (S.cQ o.dst x wr) (a.put o.dst v) w' L' from h1.Yh hd h2)
theorem Dk{s:bP}(hc:IQ P hs o=some s):HU o:=by
 intro c e;unfold IQ at hc;rw[e]at hc;cases hc
theorem U7(hΓ:nQ P Γ){s:bP}(hc:IQ P hs o=some s)(h:Rel E S a w L)(hn:nid<S.N)(he:exec Γ nid S s=some (x,wr))(hd:∀t,o.dst=some t->E.can t){K:Act->World->Prop}{Q:Exit->Act->World->Prop}
  (hK:∀a' w' L',Rel E (S.cQ o.dst x wr) a' w' L'->K a' w'):o.wpIn (WF E.rd) 0 P a w K Q:=by
 have hnd:HU o:=Dk hc;unfold IQ at hc;split at hc
 case h_1 y hop=>
  simp only[Qd,Qc,Qf]at hc;obtain⟨y',hy,rfl⟩:=hc;simp only[exec]at he;obtain⟨rfl,rfl⟩:=bR he;exact(ZK h (.inl hop) hy).wp hnd hd hK
 case h_2 y hop=>
  simp only[Qd,Qc,Qf]at hc;obtain⟨y',hy,rfl⟩:=hc;simp only[exec]at he;obtain⟨rfl,rfl⟩:=bR he;exact(ZK h (.inr hop) hy).wp hnd hd hK
 case h_3 c y z hop=>
  simp only[Qd,Qc,Qf]at hc;obtain⟨c',hc',y',hy,z',hz,rfl⟩:=hc;exact(acT h hop hc' hy hz he).wp hnd hd hK
 case h_4 t y hop=>
  simp only[Qd,Qc,Qf]at hc;obtain⟨y',hy,rfl⟩:=hc;split at he
  ·split at he
   ·exact(acY h hop hy he).wp hnd hd hK
   ·exact(ZN h hn hop hy he).wp hnd hd hK
  ·exact(ZN h hn hop hy he).wp hnd hd hK
 case h_5 t hop=>
  simp only[Qd,Qc,Qf]at hc;obtain⟨z,hz,rfl⟩:=hc;exact(abe h hn hop hz he).wp hnd hd hK
 case h_6 t y hop=>
  simp only[Qd,Qc,Qf]at hc;obtain⟨n,hn',y',hy,rfl⟩:=hc;exact(acU h hop hn' hy he).wp hnd hd hK
 case h_7 t y z hop=>
  simp only[Qd,Qc,Qf]at hc;obtain⟨i,hi,y',hy,z',hz,rfl⟩:=hc;exact(aa9 h hop hi hy hz he).wp hnd hd hK
 case h_8 t parts hop=>
  split at hc
  ·rename_i fields hu;simp only[Qd,Qc,Qf]at hc;obtain⟨z,hz,places,hp,ps,hps,rfl⟩:=hc;exact(TG h hop hz (.inl ⟨fields,places,hu,hp,hps⟩) he).wp hnd hd hK
  ·rename_i n e hu;simp only[Qd,Qc,Qf]at hc;obtain⟨z,hz,i,hi,ps,hps,rfl⟩:=hc;exact(TG h hop hz (.inr ⟨n,e,i,hu,hi,hps⟩) he).wp hnd hd hK
  ·cases hc
 case h_9 t len parts hop=>
  split at hc
  ·rename_i e hu;simp only[Qd,Qc]at hc;obtain⟨i,hi,z,hz,ps,hps,hc⟩:=hc;split at hc
   ·rename_i hb;injection hc with hc
    subst hc;exact(aee h hn hop hu hi hz hps hb.1 hb.2.1 hb.2.2 he).wp hnd hd hK
   ·cases hc
  ·cases hc
 case h_10 s0 y f hop=>
  split at hc
  ·rename_i fields hu;simp only[Qd,Qc]at hc;obtain⟨fd,hf,i,hi,hc⟩:=hc;split at hc
   ·cases hc
   ·rename_i h0;simp only[Qc,Qf]at hc;obtain⟨y',hy,rfl⟩:=hc;exact(abc h hop hu hf hi h0 hy he).wp hnd hd hK
  ·cases hc
 case h_11 t y z hop=>
  split at hc
  ·rename_i e hu;simp only[Qd,Qc,Qf]at hc;obtain⟨i,hi,y',hy,z',hz,rfl⟩:=hc;exact(abb h hop hu hi hy hz he).wp hnd hd hK
  ·rename_i n e hu;simp only[Qd,Qc,Qf]at hc;obtain⟨i,hi,y',hy,z',hz,rfl⟩:=hc;exact(abf h hop hu hi hy hz he).wp hnd hd hK
  ·cases hc
 case h_12 op t y z t2 hop=>
  split at hc
  ·rename_i fs hu;split at hc
   ·rename_i f g hfs;split at hc
    ·rename_i k0 hf hg;split at hc
     ·rename_i hb;obtain⟨b1,b2,b3,b4,b5,b6⟩:=hb;split at hc
      ·simp only[Qd,Qc,Qf]at hc;obtain⟨y',hy,z',hz,rfl⟩:=hc;exact(ZM (neg:=false) h (by simpa using hop) hu hfs hf hg b1 b2 b3 b4 b5 b6 hy hz he).wp hnd hd hK
      ·simp only[Qd,Qc,Qf]at hc;obtain⟨y',hy,z',hz,rfl⟩:=hc;exact(ZM (neg:=true) h (by simpa using hop) hu hfs hf hg b1 b2 b3 b4 b5 b6 hy hz he).wp hnd hd hK
      ·cases hc
     ·cases hc
    ·split at hc
     ·rename_i ks hks;split at hc
      ·rename_i hgu;split at hc
       ·simp only[Qd,Qc,Qf]at hc;obtain⟨y',hy,z',hz,rfl⟩:=hc;exact(OT (neg:=false) h (by simpa using hop) hu hks hgu hy hz he).wp hnd hd hK
       ·simp only[Qd,Qc,Qf]at hc;obtain⟨y',hy,z',hz,rfl⟩:=hc;exact(OT (neg:=true) h (by simpa using hop) hu hks hgu hy hz he).wp hnd hd hK
       ·cases hc
      ·cases hc
     ·cases hc
   ·split at hc
    ·rename_i ks hks;split at hc
     ·rename_i hgu;split at hc
      ·simp only[Qd,Qc,Qf]at hc;obtain⟨y',hy,z',hz,rfl⟩:=hc;exact(OT (neg:=false) h (by simpa using hop) hu hks hgu hy hz he).wp hnd hd hK
      ·simp only[Qd,Qc,Qf]at hc;obtain⟨y',hy,z',hz,rfl⟩:=hc;exact(OT (neg:=true) h (by simpa using hop) hu hks hgu hy hz he).wp hnd hd hK
      ·cases hc
     ·cases hc
    ·cases hc
  ·rename_i e hu;split at hc
   ·split at hc
    ·simp only[Qd,Qc,Qf]at hc;obtain⟨y',hy,rfl⟩:=hc;exact(TF (neg:=false) h (by simpa using hop) hu hy he).wp hnd hd hK
    ·simp only[Qd,Qc,Qf]at hc;obtain⟨y',hy,rfl⟩:=hc;exact(TF (neg:=true) h (by simpa using hop) hu hy he).wp hnd hd hK
    ·cases hc
   ·cases hc
  ·rename_i hu;split at hc
   ·simp only[Qd,Qc,Qf]at hc;obtain⟨y',hy,z',hz,rfl⟩:=hc;exact(ZL (neg:=false) h (by simpa using hop) hu hy hz he).wp hnd hd hK
   ·simp only[Qd,Qc,Qf]at hc;obtain⟨y',hy,z',hz,rfl⟩:=hc;exact(ZL (neg:=true) h (by simpa using hop) hu hy hz he).wp hnd hd hK
   ·cases hc
  ·simp only[Qd,Qc,Qf]at hc;obtain⟨y',hy,z',hz,rfl⟩:=hc;exact(aef h hop hy hz he).wp hnd hd hK
 case h_13 t y hop=>
  simp only[Qd,Qc,Qf]at hc;obtain⟨y',hy,rfl⟩:=hc;exact(ad8 h hop hy he).wp hnd hd hK
 case h_14 src dst y hop=>
  split at hc
  ·rename_i k0 k hs ht;simp only[Qd,Qc,Qf]at hc;obtain⟨y',hy,rfl⟩:=hc;exact(acX h hop hs ht hy he).wp hnd hd hK
  ·cases hc
 case h_15 t y z hop=>
  split at hc
  ·rename_i hu;simp only[Qd,Qc,Qf]at hc;obtain⟨y',hy,z',hz,rfl⟩:=hc;exact(acS h hop hu hy hz he).wp hnd hd hK
  ·rename_i len e hu;simp only[Qd,Qc,Qf]at hc;obtain⟨n,hn,i,hi,y',hy,z',hz,rfl⟩:=hc;exact(acZ h hop hu hn hi hy hz he).wp hnd hd hK
  ·cases hc
 case h_16 t y z ok hop=>
  split at hc
  ·rename_i kt vt hu;split at hc
   ·rename_i fs hkt;split at hc
    ·rename_i f g hfs;split at hc
     ·rename_i k0 l0 hf hg;split at hc
      ·rename_i hb;obtain⟨b1,b2,b3,b4,b5⟩:=hb;simp only[Qd,Qc,Qf]at hc;obtain⟨i,hi,z0,hz0,zv,hz,y',hy,z',hzz,rfl⟩:=hc;exact(YD h hop hu hkt hfs hf hg b1 b2 b3 b4 b5 hi hz0 hz hy hzz he).wp hnd hd hK
      ·cases hc
     ·cases hc
    ·cases hc
   ·cases hc
  ·cases hc
 case h_17 y hop=>
  simp only[Qd,Qc,Qf]at hc;obtain⟨y',hy,rfl⟩:=hc;exact(aba h hop hy he).wp hnd hd hK
 case h_18 y i hop=>
  simp only[Qd,Qc,Qf]at hc;obtain⟨y',hy,rfl⟩:=hc;exact(acW h hop hy he).wp hnd hd hK
 case h_19 f first caps hop=>
  split at hc
  ·rename_i h0;simp only[Qd,Qc,Qf]at hc;obtain⟨cs,hcs,rfl⟩:=hc;exact(aea h hop h0 hcs he).wp hnd hd hK
  ·split at hc
   ·rename_i h0;simp only[Qd,Qc,Qf]at hc;obtain⟨cs,hcs,rfl⟩:=hc;exact(aeb h hop h0 hcs he).wp hnd hd hK
   ·cases hc
 case h_20 t l c hop=>
  split at hc
  ·rename_i e hu;simp only[Qd,Qc]at hc;obtain⟨i,hi,hc⟩:=hc;split at hc
   ·rename_i h0;simp only[Qc,Qf]at hc;obtain⟨z,hz,l',hl,c',hc',rfl⟩:=hc;exact(ad9 h hn hop hu hi h0 hz hl hc' he).wp hnd hd hK
   ·cases hc
  ·cases hc
 case h_21 t y lo hi hop=>
  split at hc
  ·rename_i e hu;simp only[Qd,Qc,Qf]at hc;obtain⟨i,hi0,y',hy,lo',hlo,hi',hhi,rfl⟩:=hc;exact(ad7 h hop hu hi0 hy hlo hhi he).wp hnd hd hK
  ·cases hc
 case h_22 fop args ats hop=>
  simp only[Qd,Qc]at hc;obtain⟨xs,hxs,hc⟩:=hc;have hr:=h.de hxs;have ha:args.map a.eval=(args.toList.map a.eval).toArray:=by rw[<-Array.toList_map,Array.toArray_toList]
  split at hc
  ·rename_i f;injection hc with hc
   subst hc;simp only[exec]at he;obtain⟨hen,hcall⟩:=M1 hΓ h hn hr he;exact M0 (by simp[execOp,hop,resolve,Act.eval,Deferred.ofValue,invoke,ha,qv hen]) hcall hnd hd hK
  ·simp only[Qc,Qf]at hc;obtain⟨fv,hfv,rfl⟩:=hc;have rf:=h.iw hfv;simp only[exec]at he;split at he
   ·rename_i f caps ef;rw[ef]at rf;obtain⟨vs,hv,hrc⟩:=rf.w7;obtain⟨hen,hcall⟩:=M1 hΓ h hn (hr.append hrc) he;refine M0 ?_ hcall hnd hd hK;simp only[execOp,hop,resolve,hv,Deferred.ofValue,Sem.run_bind,Sem.run_pure,Result.andThen_ok,invoke,ha];simp[qv hen]
   ·rename_i f caps ef;rw[ef]at rf;obtain⟨vs,hv,hrc⟩:=rf.M3;obtain⟨hen,hcall⟩:=M1 hΓ h hn (hrc.append hr) he;refine M0 ?_ hcall hnd hd hK;simp only[execOp,hop,resolve,hv,Deferred.ofValue,Sem.run_bind,Sem.run_pure,Result.andThen_ok,invoke,ha];simp[qv hen]
   ·cases he
 case h_23 b args ats hop=>
  split at hc
  ·rename_i y t hargs hats;have ha:args=#[y]:=by rw[<-Array.toArray_toList (xs:=args),hargs]
   have hb:ats=#[t]:=by rw[<-Array.toArray_toList (xs:=ats),hats]
   subst ha hb;split at hc
   ·rename_i hu;simp only[Qd,Qc,Qf]at hc;obtain⟨y',hy,rfl⟩:=hc;exact(acV h hop hu hy he).wp hnd hd hK
   ·rename_i e hu;simp only[Qd,Qc,Qf]at hc;obtain⟨y',hy,rfl⟩:=hc;exact(aec h hop hu hy he).wp hnd hd hK
   ·cases hc
  ·rename_i y z t t' hargs hats;have ha:args=#[y,z]:=by rw[<-Array.toArray_toList (xs:=args),hargs]
   have hb:ats=#[t,t']:=by rw[<-Array.toArray_toList (xs:=ats),hats]
   subst ha hb;split at hc
   ·rename_i e hu;simp only[Qd,Qc]at hc;obtain⟨i,hi,zv,hzv,hc⟩:=hc;split at hc
    ·rename_i hb;obtain⟨rfl,b2,b3⟩:=hb;simp only[Qc,Qf]at hc;obtain⟨y',hy,z',hz,rfl⟩:=hc
     cases hf:Zm hs o with
     |false=>
      rw[hf]at he;exact(ZO h hn hop hu hi hzv b2 b3 hy hz he).wp hnd hd hK
     |true=>
      rw[hf]at he;obtain⟨id,ao,es,g1,rfl,rfl,g2⟩:=Y7 he;exact((ZO h hn hop hu hi hzv b2 b3 hy hz g1).FD g2).wp hnd hd hK
    ·cases hc
   ·cases hc
  ·rename_i y t hargs hats;have ha:args=#[y]:=by rw[<-Array.toArray_toList (xs:=args),hargs]
   have hb:ats=#[t]:=by rw[<-Array.toArray_toList (xs:=ats),hats]
   subst ha hb;split at hc
   ·rename_i e hu;simp only[Qd,Qc,Qf]at hc;obtain⟨i,hi,z,hz,y',hy,rfl⟩:=hc;exact(abd h hop hu hi hz hy he).wp hnd hd hK
   ·cases hc
  ·rename_i y z hargs;have ha:args=#[y,z]:=by rw[<-Array.toArray_toList (xs:=args),hargs]
   subst ha;simp only[Qd,Qc,Qf]at hc;obtain⟨y',hy,z',hz,rfl⟩:=hc;exact(Rn (mx:=false) h (by simpa using hop) hy hz he).wp hnd hd hK
  ·rename_i y z hargs;have ha:args=#[y,z]:=by rw[<-Array.toArray_toList (xs:=args),hargs]
   subst ha;simp only[Qd,Qc,Qf]at hc;obtain⟨y',hy,z',hz,rfl⟩:=hc;exact(Rn (mx:=true) h (by simpa using hop) hy hz he).wp hnd hd hK
  ·cases hc
 case h_24 t y i hop=>
  split at hc
  ·rename_i fs hu;split at hc
   ·rename_i f hf;simp only[Qd,Qc,Qf]at hc;obtain⟨n,hn,y',hy,rfl⟩:=hc;exact(aed h hop hu hf hn hy he).wp hnd hd hK
   ·cases hc
  ·cases hc
 case h_25=>cases hc
end
end
section
open Go.RowKit
def vw(P:Program)(hs:List Nat)(ops:Array Oper)(o:Oper):Option SG:=
 match IQ P hs o with
 |none=>none
 |some s=>
  match o.guard with
  |none=>some ⟨o.dst,none,s⟩
  |some (j,want)=>
   match ops[j]? with
   |none=>none
   |some oj=>
    match oj.dst with
    |none=>none
    |some t=>some ⟨o.dst,some (t,want),s⟩
section
variable {P : Program} {E : En} {S : St} {a : Act} {w : World} {L : Nat -> Value} {Γ : ow} {hs : List Nat}
theorem G1{ops:Array Oper}{o:Oper}{g:SG}(h:vw P hs ops o=some g):IQ P hs o=some g.op/\g.d=o.dst/\
  ((o.guard=none/\g.g=none)\/∃j want oj t,o.guard=some (j,want)/\ops[j]?=some oj/\oj.dst=some t/\g.g=some (t,want)):=by
 unfold vw at h;split at h
 ·cases h
 ·rename_i s hs;split at h
  ·rename_i hg;injection h with h
   subst h;exact⟨hs,rfl,.inl ⟨hg,rfl⟩⟩
  ·rename_i j want hg;split at h
   ·cases h
   ·rename_i oj hoj;split at h
    ·cases h
    ·rename_i t ht;injection h with h
     subst h;exact⟨hs,rfl,.inr ⟨j,want,oj,t,hg,hoj,ht,rfl⟩⟩
theorem M9{ops:Array Oper}{o:Oper}{g:SG}(h:Rel E S a w L)(hc:vw P hs ops o=some g){b:Bool}(hw:g.wanted S=some b):Region.wanted o (yielded ops a.tmps)=b:=by
 obtain⟨_,_,hg⟩:=G1 hc;unfold SG.wanted at hw;rcases hg with⟨h1,h2⟩|⟨j,want,oj,t,h1,h2,h3,h4⟩
 ·rw[h2]at hw;injection hw with hw
  subst hw;simp[Region.wanted,h1]
 ·rw[h4]at hw;simp only at hw;have he:=h.env t;split at hw
  ·rename_i b' eb;rw[eb]at he;have hv:=he.nh;injection hw with hw
   subst hw
   have:a.tmps[t]?=some (.bool b'):=by
    rw[QN]at hv
    cases hq:a.tmps[t]? with
    |none=>rw[hq]at hv;simp[undef]at hv
    |some v=>rw[hq]at hv;simp at hv;rw[hv]
   simp[Region.wanted,h1,yielded,h2,h3,this]
  ·rename_i eb;rw[eb]at he;have hv:=he.VX;injection hw with hw
   subst hw
   have:yielded ops a.tmps j=none:=by
    simp only[yielded,h2,h3,Qa];rw[QN]at hv
    cases hq:a.tmps[t]? with
    |none=>rfl
    |some v=>rw[hq]at hv;simp at hv;rw[hv];rfl
   simp[Region.wanted,h1,this]
  ·cases hw
theorem wV(hΓ:nQ P Γ){ops:Array Oper}{o:Oper}{g:SG}(hc:vw P hs ops o=some g)(h:Rel E S a w L){nid:Nat}(hn:nid<S.N)(hd:∀t,o.dst=some t->E.can t){S':St}(hs:u9 Γ nid S g=some S'){K:Act->World->Prop}{Q:Exit->Act->World->Prop}
  (hK:∀a' w' L',Rel E S' a' w' L'->K a' w'):if Region.wanted o (yielded ops a.tmps)=true then o.wpIn (WF E.rd) 0 P a w K Q else(∀f,o.about P w a.eval=some f->(WF E.rd).fn f)/\K (a.put o.dst undef) w:=by
 obtain⟨hcop,hgd,_⟩:=G1 hc;unfold u9 at hs;split at hs
 ·rename_i hw;rw[M9 h hc hw,Qr rfl];simp only[Qb]at hs;obtain⟨⟨x,wr⟩,he,rfl⟩:=hs;rw[hgd]at hK;exact U7 hΓ hcop h hn he hd hK
 ·rename_i hw;rw[M9 h hc hw,Qs (by simp)]
  injection hs with hs
  subst hs;rw[hgd]at hK;exact⟨fun _ _=>trivial,hK _ _ _ (h.Yh hd .undef)⟩
 ·cases hs
theorem Zr{nid:Nat}{g:SG}{S':St}(hs:u9 Γ nid S g=some S'):S'.N=S.N:=by
 unfold u9 at hs;split at hs
 ·simp only[Qb]at hs;obtain⟨p,_,rfl⟩:=hs;rfl
 ·injection hs with hs;subst hs;rfl
 ·cases hs
theorem Ev(hΓ:nQ P Γ){ops:Array Oper}:∀(l:List Oper) (gs:List SG) (nid:Nat) (S S':St) (a:Act) (w:World) (L:Nat->Value),l.mapM (vw P hs ops)=some gs->Rel E S a w L->nid+l.length<=S.N->
  (∀o∈l,∀t,o.dst=some t->E.can t)->Ak Γ nid gs S=some S'->∀{Q:Exit->Act->World->Prop},(∀a' w' L',Rel E S' a' w' L'->Q .normal a' w')->wpListIn (WF E.rd) 0 P ops Q l a w
 |[],gs,nid,S,S',a,w,L,hm,h,hN,hd,hr,Q,hQ=>by
  simp at hm;subst hm;simp only[Ak,Qf]at hr;subst hr;exact hQ a w L h
 |o::l,gs,nid,S,S',a,w,L,hm,h,hN,hd,hr,Q,hQ=>by
  simp only[Qq75,Qd,Qc,Option.pure_def,Qf]at hm;obtain⟨g,hg,gs',hgs,rfl⟩:=hm;simp only[Ak]at hr;split at hr
  ·rename_i S1 hs;refine wpListIn_step fun K hK=> ?_
   refine wV hΓ hg h (by simp at hN;omega) (hd o (by simp)) hs (fun a' w' L' h'=>hK _ _ ?_)
   exact Ev hΓ l gs' (nid+1) S1 S' a' w' L' hgs h' (by rw[Zr hs];simp at hN;omega) (fun o' ho'=>hd o' (by simp[ho'])) hr hQ
  ·cases hr
inductive SC where
 |skip
 |xl (ops:List SG)
 |tC (un:List (Nat×Nat)) (ops:List SG)
 |seq (x y:SC)
 |cond (c:bo) (x y:SC)
 |block (id:Nat) (c:SC)
 |loop (c:SC)
 |Fy (g:bo) (ps:List Nat) (x y:SC)
 |exit (id:Nat)
 |ret
def lF:Code->List Nat
 | .region _ ops _=>ops.toList.filterMap (·.dst)
 | .seq x y| .cond _ x y=>lF x++lF y
 | .block _ c| .loop c=>lF c
 | .rangeFunc _ ps x y=>ps.toList++lF x++lF y
 |_=>[]
def Ao:Code->Bool
 | .seq x y| .cond _ x y=>Ao x&&Ao y
 | .block _ c| .loop c=>Ao c
 | .rangeFunc ..=>false
 |_=>true
def CT(E:En)(c:Code):Prop:=(∀t∈lF c,E.kt t=none)/\((E.rd=none/\E.nd=false)\/Ao c=true)
theorem CT.afa{E:En}{x y:Code}(h:CT E (.seq x y)):CT E x:=⟨fun t ht=>h.1 t (List.mem_append_left _ ht),h.2.imp id fun e=>by simp only[Ao,Qm]at e;exact e.1⟩
theorem CT.ae9{E:En}{x y:Code}(h:CT E (.seq x y)):CT E y:=⟨fun t ht=>h.1 t (List.mem_append_right _ ht),h.2.imp id fun e=>by simp only[Ao,Qm]at e;exact e.2⟩
theorem CT.ZT{E:En}{c:Operand}{x y:Code}(h:CT E (.cond c x y)):CT E x:=⟨fun t ht=>h.1 t (List.mem_append_left _ ht),h.2.imp id fun e=>by simp only[Ao,Qm]at e;exact e.1⟩
theorem CT.ZS{E:En}{c:Operand}{x y:Code}(h:CT E (.cond c x y)):CT E y:=⟨fun t ht=>h.1 t (List.mem_append_right _ ht),h.2.imp id fun e=>by simp only[Ao,Qm]at e;exact e.2⟩
theorem Xr{E:En}{id:Nat}{ops:Array Oper}{d:Bool}{nt:Nat}(hE:E.nt=nt)(hk:CT E (.region id ops d))(hd:∀o∈ops.toList,∀t,o.dst=some t->t<nt):∀o∈ops.toList,∀t,o.dst=some t->E.can t:=
 fun o ho t ht=>⟨by rw[hE];exact hd o ho t ht,hk.1 t (List.mem_filterMap.2 ⟨o,ho,ht⟩)⟩
def V(P:Program)(nt:Nat)(c:Code)(Q:Exit->St->Prop)(S:St):Prop:=
 ∀(E:En),E.nt=nt->CT E c->∀(a:Act) (w:World) (L:Nat->Value),Rel E S a w L->c.wpIn (WF E.rd) 0 P (fun e a' w'=>∃S' L',Rel E S' a' w' L'/\Q e S') a w
theorem V.mono{nt:Nat}{c:Code}{Q Q':Exit->St->Prop}(h:V P nt c Q S)(hq:∀e S,Q e S->Q' e S):V P nt c Q' S:=
 fun E hE hk a w L hr=>wpIn_mono (h E hE hk a w L hr) fun _ _ _ ⟨S',L',h1,h2⟩=>⟨S',L',h1,hq _ _ h2⟩
def Ml(K:St->Prop)(Q:Exit->St->Prop):Exit->St->Prop
 | .normal,S=>K S
 | .exit i,S=>Q (.exit i) S
 | .goto l,S=>Q (.goto l) S
 | .ret,S=>Q .ret S
 | .panic c,S=>Q (.panic c) S
 | .outgrown,S=>Q .outgrown S
def D1(id:Nat)(Q:Exit->St->Prop):Exit->St->Prop
 | .exit i,S=>if i=id then Q .normal S else Q (.exit i) S
 | .normal,S=>Q .normal S
 | .goto l,S=>Q (.goto l) S
 | .ret,S=>Q .ret S
 | .panic c,S=>Q (.panic c) S
 | .outgrown,S=>Q .outgrown S
theorem adj{nt:Nat}{Q:Exit->St->Prop}(h:Q .normal S):V P nt .skip Q S:=fun _ _ _ _ _ L hr=>wpIn_skip ⟨S,L,hr,h⟩
theorem adk{nt id:Nat}{Q:Exit->St->Prop}(h:Q (.exit id) S):V P nt (.exit id) Q S:=fun _ _ _ _ _ L hr=>wpIn_exit ⟨S,L,hr,h⟩
theorem aes{nt:Nat}{Q:Exit->St->Prop}(h:Q .ret S):V P nt .ret Q S:=fun _ _ _ _ _ L hr=>wpIn_ret ⟨S,L,hr,h⟩
theorem aer{nt:Nat}{x y:Code}{Q:Exit->St->Prop}(h:V P nt x (Ml (V P nt y Q) Q) S):V P nt (.seq x y) Q S:=fun E hE hk a w L hr=>
 wpIn_seq (wpIn_mono (h E hE hk.afa a w L hr) fun e a' w' ⟨S',L',h1,h2⟩=>by
  cases e with
  |normal=>exact h2 E hE hk.ae9 a' w' L' h1
  |exit i=>exact⟨S',L',h1,h2⟩
  |goto l=>exact⟨S',L',h1,h2⟩
  |ret=>exact⟨S',L',h1,h2⟩
  |panic c=>exact⟨S',L',h1,h2⟩
  |outgrown=>exact⟨S',L',h1,h2⟩)
theorem adl{nt:Nat}{c:Operand}{c':bo}{x y:Code}{b:Bool}{Q:Exit->St->Prop}(hc:bA c=some c')(hb:c'.val S= .bool b)(h:V P nt (if b then x else y) Q S):V P nt (.cond c x y) Q S:=fun E hE hk a w L hr=>by
 have:=hr.iw hc;rw[hb]at this
 exact wpIn_cond this.nh (h E hE (by
  cases b
  ·exact hk.ZS
  ·exact hk.ZT) a w L hr)
theorem abM{nt id:Nat}{c:Code}{Q:Exit->St->Prop}(h:V P nt c (D1 id Q) S):V P nt (.block id c) Q S:=fun E hE hk a w L hr=>
 wpIn_block (wpIn_mono (h E hE hk a w L hr) fun e a' w' ⟨S',L',h1,h2⟩=>by
  cases e with
  |exit i=>
   simp only[D1]at h2;simp only[Exit.inBlock];split
   ·rename_i hi;rw[Qr hi]at h2;exact⟨S',L',h1,h2⟩
   ·rename_i hi;rw[Qs hi]at h2;exact⟨S',L',h1,h2⟩
  |normal=>exact⟨S',L',h1,h2⟩
  |goto l=>exact⟨S',L',h1,h2⟩
  |ret=>exact⟨S',L',h1,h2⟩
  |panic c=>exact⟨S',L',h1,h2⟩
  |outgrown=>exact⟨S',L',h1,h2⟩)
theorem vk{α β:Type}{f:α->Option β}:∀{l:List α} {r:List β},l.mapM f=some r->r.length=l.length
 |[],r,h=>by simp at h;subst h;rfl
 |x::l,r,h=>by
  simp only[Qq75,Qd,Qc,Option.pure_def,Qf]at h;obtain⟨y,_,ys,hys,rfl⟩:=h;simp[vk hys]
def PV.kQ(n:Nat):PV->Bool
 | .own id _| .ptr id _ _| .eQ id _ _ _ _| .view id _ _ _ _=>decide (id<n)
 | .agg _| .dO _| .bG _ _| .jk _ _=>false
 |_=>true
def PV.under(n:Nat):PV->Bool
 | .agg cs| .dO cs| .bG _ cs| .jk _ cs=>cs.all (PV.kQ n)
 |x=>x.kQ n
def wQ.under(n:Nat):wQ->Bool
 | .dead=>true
 | .box cs=>cs.all (PV.under n)
 | .row _ _ es=>es.all fun e=>e.all (PV.under n)
theorem bg.kQ{M M':Nat->Prop}{G G':Gh}{x:PV}{v:Value}(hx:x.kQ G'.N=true)(hM:∀b,M' b->M b)(hL:G'.L=G.L)(hV:∀id,id<G'.N->G'.V id=G.V id)(h:bg w M G x v):bg w M' G' x v:=by
 have hs:dI w w M M':=(dI.of fun _ hm=>fun h'=>hm (hM _ h'))
 cases h with
 |any=>exact .any _
 |undef=>exact .undef
 |int=>exact .int _ _
 |bool=>exact .bool _
 |gH=>first|exact .gH _|simp[PV.closed]at hc
 |str=>exact .str _
 |kJ=>exact .kJ
 |dR=>exact .dR
 |bG=>simp[PV.kQ]at hx
 |jk=>simp[PV.kQ]at hx
 |agg=>simp[PV.kQ]at hx
 |dO=>simp[PV.kQ]at hx
 |ptr id ao off a hN hVe h=>simp only[PV.kQ,Qi]at hx;exact .ptr _ _ _ _ hx (by rw[hV id hx];exact hVe) (fun e=>by rw[hL];exact h (by rw[e,hV id hx]))
 |ref cs ad vs hl hcell h=>exact .ref cs ad vs hl (fun i u hu=>⟨(hcell i u hu).1,fun h'=>(hcell i u hu).2 (hM _ h')⟩) (fun i p u hp hu=>(h i p u hp hu).mono hs (Gh.le.refl _))
 |sl es ad c k vs hk hl hcell h hn hm=>exact .sl es ad c k vs hk hl (fun i u hu=>⟨(hcell i u hu).1,fun h'=>(hcell i u hu).2 (hM _ h')⟩) (fun i p u hp hu=>(h i p u hp hu).mono hs (Gh.le.refl _)) hn hm
 |slnil=>exact .slnil
 |own id ao a n c hN hVe h=>simp only[PV.kQ,Qi]at hx;exact .own _ _ _ _ _ hx (by rw[hV id hx];exact hVe) (fun e=>by rw[hL];exact h (by rw[e,hV id hx]))
 |eQ id ao k i off a hN hVe h=>simp only[PV.kQ,Qi]at hx;exact .eQ _ _ _ _ _ _ hx (by rw[hV id hx];exact hVe) (fun e=>by rw[hL];exact h (by rw[e,hV id hx]))
 |view id ao k lo n a c hN hVe h=>simp only[PV.kQ,Qi]at hx;exact .view _ _ _ _ _ _ _ hx (by rw[hV id hx];exact hVe) (fun e=>by rw[hL];exact h (by rw[e,hV id hx]))
 |iK ks us b es ck hb hMb hk hv h1 h2=>exact .iK ks us b es ck hb (fun h'=>hMb (hM _ h')) hk hv (fun i p e hp he=>(h1 i p e hp he).mono hs (Gh.le.refl _)) (fun i p e hp he=>(h2 i p e hp he).mono hs (Gh.le.refl _))
theorem bg.under{M M':Nat->Prop}{G G':Gh}{x:PV}{v:Value}(hx:x.under G'.N=true)(hM:∀b,M' b->M b)(hL:G'.L=G.L)(hV:∀id,id<G'.N->G'.V id=G.V id)(h:bg w M G x v):bg w M' G' x v:=by
 have go:∀{cs:List PV} {vs:List Value},cs.all (PV.kQ G'.N)=true->bf w M G cs vs->bf w M' G' cs vs:=fun hc h=>⟨h.1,fun i y v hy hv=>(h.2 i y v hy hv).kQ (QH.1 hc y (Q8 hy)) hM hL hV⟩
 cases x with
 |agg cs=>obtain⟨vs,rfl,hr⟩:=h.n5;have:=go (by simpa[PV.under]using hx) hr;exact .agg _ _ this.1 this.2
 |dO cs=>obtain⟨vs,rfl,hr⟩:=h.Dv;have:=go (by simpa[PV.under]using hx) hr;exact .dO _ _ this.1 this.2
 |bG f cs=>obtain⟨vs,rfl,hr⟩:=h.w7;have:=go (by simpa[PV.under]using hx) hr;exact .bG _ _ _ this.1 this.2
 |jk f cs=>obtain⟨vs,rfl,hr⟩:=h.M3;have:=go (by simpa[PV.under]using hx) hr;exact .jk _ _ _ this.1 this.2
 |_=>exact h.kQ (by simpa[PV.under]using hx) hM hL hV
def St.cut(S:St)(ts:List Nat)(n:Nat):St:=
 {env:=fun t=>if t∈ts then S.env t else .any,H:=fun id=>if id<n then S.H id else⟨0,.dead⟩,N:=n}
structure VH (S:St) (ts:List Nat) (n:Nat):Prop where
 N:n<=S.N
 env:∀t∈ts,(S.env t).under n=true
 H:∀id,id<n->(S.H id).c.under n=true
theorem Rel.cut(h:Rel E S a w L){ts:List Nat}{n:Nat}(hc:VH S ts n):Rel E (S.cut ts n) a w L:=by
 have hM:∀b,bs E (S.cut ts n) L b->bs E S L b:=by
  rintro b (⟨id,hid,hl,hb⟩|hb)
  ·simp only[St.cut]at hid hl;rw[Qr hid]at hl;exact .inl ⟨id,QJ hid hc.N,hl,hb⟩
  ·exact .inr hb
 have hV:∀id,id<((S.cut ts n).gh L).N->((S.cut ts n).gh L).V id=(S.gh L).V id:=fun id hid=>by
  simp only[St.gh,St.cut]at hid ⊢;rw[Qr hid]
 have go:∀{cs:List PV} {vs:List Value},(∀y∈cs,y.under n=true)->bf w (bs E S L) (S.gh L) cs vs->bf w (bs E (S.cut ts n) L) ((S.cut ts n).gh L) cs vs:=fun hc h=>
  ⟨h.1,fun i y v hy hv=>bg.under (G:=S.gh L) (G':=(S.cut ts n).gh L) (hc y (Q8 hy)) hM rfl hV (h.2 i y v hy hv)⟩
 refine⟨h.defers,h.size,fun t=> ?_,fun id hid=> ?_,fun i j b hi hj hli hlj hbi hbj=> ?_,fun id hid=> ?_,h.fr,fun hb hlv hvr=> ?_⟩
 ·by_cases ht:t∈ts
  ·have e:(S.cut ts n).env t=S.env t:=by simp[St.cut,ht]
   rw[e];exact bg.under (G:=S.gh L) (G':=(S.cut ts n).gh L) (hc.env t ht) hM rfl hV (h.env t)
  ·have e:(S.cut ts n).env t= .any:=by simp[St.cut,ht]
   rw[e];exact .any _
 ·simp only[St.cut]at hid;have hc':((S.cut ts n).H id).c=(S.H id).c:=by simp[St.cut,hid]
  rw[hc'];have ho:=h.obj id (QJ hid hc.N);have hb:=hc.H id hid
  cases hcc:(S.H id).c with
  |dead=>trivial
  |box cs=>
   rw[hcc]at ho hb;obtain⟨b,cur,T,h1,h2,h3,h4⟩:=ho;exact⟨b,cur,T,h1,h2,h3,go (fun y hy=>QH.1 hb y hy) h4⟩
  |row e k es=>
   rw[hcc]at ho hb;obtain⟨vs,h1,h2,h3⟩:=ho;refine⟨vs,h1,h2,go (fun y hy=> ?_) h3⟩
   obtain⟨l,hl,hyl⟩:=List.mem_flatten.1 hy;exact QH.1 (QH.1 hb l hl) y hyl
 ·simp only[St.cut]at hi hj hli hlj;rw[Qr hi]at hli;rw[Qr hj]at hlj;exact h.apart i j b (QJ hi hc.N) (QJ hj hc.N) hli hlj hbi hbj
 ·simp only[St.cut]at hid ⊢;rw[Qs (by omega)]
 ·simp only[St.cut]at hlv hvr
  by_cases hn0:0<n
  ·rw[Qr hn0]at hlv hvr;exact h.BA hb hlv hvr
  ·rw[Qs hn0]at hlv;cases hlv
def ad3(ts:List Nat)(n:Nat)(I:Nat->St->Prop)(m:Nat)(Q:Exit->St->Prop):Exit->St->Prop
 | .normal,S=>VH S ts n/\∃m',m'<m/\I m' (S.cut ts n)
 | .exit i,S=>Q (.exit i) S
 | .goto l,S=>Q (.goto l) S
 | .ret,S=>Q .ret S
 | .panic c,S=>Q (.panic c) S
 | .outgrown,S=>Q .outgrown S
end
end
section
open Go.RowKit
def bo.bX:bo->List Nat
 | .tmp t=>[t]
 | .w5 _=>[]
def bP.bX:bP->List Nat
 | .ot x| .box x| .Dm x| .load _ x| .zx _ x| .not x| .conv _ x| .len _ x| .zr x| .Dg _ x| .xJ _ x| .clear _ _ x| .IK _ _ x=>x.bX
 | .pick c x y=>c.bX++x.bX++y.bX
 | .alloc _=>[]
 | .store _ p x=>p.bX++x.bX
 | .build _ ps=>ps.flatMap fun p=>p.2.2.bX
 | .LL _ _ _ _ ps=>ps.flatMap fun p=>p.2.bX
 | .ru _ x i| .zC _ _ x i=>x.bX++i.bX
 | .bin _ x y| .lu _ x y| .DW _ _ x y| .GV _ x y| .te _ x y| .xi x y| .Dn _ _ _ _ x y| .lookup _ _ x y=>x.bX++y.bX
 | .call _ xs=>xs.flatMap bo.bX
 | .uq f xs=>f.bX++xs.flatMap bo.bX
 | .cQ _ _ _ _ s x=>s.bX++x.bX
 | .IC _ caps| .ID _ caps=>caps.flatMap bo.bX
 | .KR _ _ _ _ l c=>l.bX++c.bX
 | .FY _ x lo hi=>x.bX++(match lo with|some l=>l.bX|none=>[])++(match hi with|some h=>h.bX|none=>[])
def SG.bX(g:SG):List Nat:=(match g.g with|some (t,_)=>[t]|none=>[])++g.op.bX
def bP.qu:bP->Bool
 | .ot _| .Dm _| .pick ..| .bin ..| .lu ..| .DW ..| .GV ..| .not _| .conv ..| .Dg ..| .IC ..| .ID ..| .build ..| .te ..| .xi ..| .Dn ..| .lookup ..| .IK ..| .len true _=>false
 |_=>true
def oS:PV->List Nat
 | .own id _| .ptr id _ _| .eQ id _ _ _ _| .view id _ _ _ _=>[id]
 |_=>[]
def eX(H:Nat->fT):Nat->PV->List Nat
 |0,_=>[]
 |n+1,.own id _=>id::(match(H id).c with| .row _ _ es=>es.flatMap (fun e=>e.flatMap (eX H n))|_=>[])
 |n+1,.ptr id _ _=>id::(match(H id).c with| .box cs=>cs.flatMap (eX H n)|_=>[])
 |n+1,.agg cs|n+1,.dO cs|n+1,.bG _ cs|n+1,.jk _ cs=>cs.flatMap (eX H n)
 |_+1,_=>[]
def fH(nid:Nat)(S:St):bP->List Nat
 | .load _ p| .zx _ p| .zr p| .store _ p _=>oS (p.val S)
 | .ru _ x _| .zC _ _ x _| .len false x| .xJ _ x| .FY _ x _ _| .clear _ _ x=>oS (x.val S)
 | .box _| .alloc _| .LL ..| .KR ..=>[nid]
 | .cQ _ _ _ _ s x=>nid::(oS (s.val S)++oS (x.val S))
 | .call _ xs=>nid::(xs.map (·.val S)).flatMap (eX S.H 9)
 | .uq f xs=>nid::(eX S.H 10 (f.val S)++(xs.map (·.val S)).flatMap (eX S.H 9))
 |_=>[]
section
variable {Γ : ow} {S S' : St} {nid : Nat}
theorem bo.val_congr{x:bo}(h:∀t∈x.bX,S'.env t=S.env t):x.val S'=x.val S:=by
 cases x with
 |tmp t=>exact h t (by simp[bo.bX])
 |w5 v=>rfl
theorem tT{xs:List bo}(h:∀t∈xs.flatMap bo.bX,S'.env t=S.env t):xs.map (·.val S')=xs.map (·.val S):=
 Qq71 fun x hx=>bo.val_congr fun t ht=>h t (QQ.2 ⟨x,hx,ht⟩)
theorem Ro{H H':Nat->fT}{ex:Option Nat}:∀(n:Nat) (x:PV),(∀id∈eX H n x,H' id=H id)->fz H' ex n x=fz H ex n x
 |0,x,_=>by cases x<;>simp[fz]
 |n+1,x,h=>by
  have go:∀cs:List PV,(∀id∈cs.flatMap (eX H n),H' id=H id)->cs.map (fz H' ex n)=cs.map (fz H ex n):=fun cs hc=>
   Qq71 fun y hy=>Ro n y fun id hid=>hc id (QQ.2 ⟨y,hy,hid⟩)
  cases x with
  |own id ao=>
   have h0:H' id=H id:=h id (by simp[eX])
   simp only[fz,h0];split
   ·rfl
   ·cases hc:(H id).c with
    |row e k es=>
     simp only;congr 1;refine Qq71 fun y hy=>go y fun i hi=>h i ?_
     simp only[eX,hc,QA];exact .inr (QQ.2 ⟨y,hy,hi⟩)
    |dead=>rfl
    |box cs=>rfl
  |ptr id ao off=>
   have h0:H' id=H id:=h id (by simp[eX])
   simp only[fz,h0];split
   ·rfl
   ·cases hc:(H id).c with
    |box cs=>
     simp only;rw[go cs fun i hi=>h i (by simp only[eX,hc,QA];exact .inr hi)]
    |dead=>rfl
    |row e k es=>rfl
  |agg cs=>simp only[fz];rw[go cs (by simpa[eX]using h)]
  |dO cs=>simp only[fz];rw[go cs (by simpa[eX]using h)]
  |bG f cs=>simp only[fz];rw[go cs (by simpa[eX]using h)]
  |_=>simp[fz]
theorem CM{H H':Nat->fT}{ex:Option Nat}{xs:List PV}(h:∀id∈xs.flatMap (eX H 9),H' id=H id):xs.map (fz H' ex 9)=xs.map (fz H ex 9):=
 Qq71 fun y hy=>Ro 9 y fun id hid=>h id (QQ.2 ⟨y,hy,hid⟩)
theorem B2{f:FuncId}{args:List PV}(hnid:S'.H nid=S.H nid)(h:∀id∈args.flatMap (eX S.H 9),S'.H id=S.H id):mw Γ nid S' f args=mw Γ nid S f args:=by
 have Xt:∀(m:Model) (e k:Nat),yZ m e k S' args=yZ m e k S args:=by
  intro m e k;unfold yZ
  cases args with
  |nil=>rfl
  |cons x rest=>
   cases x with
   |own id ao=>
    have h0:S'.H id=S.H id:=h id (by simp[eX])
    have h1:rest.map (fz S'.H (some id) 9)=rest.map (fz S.H (some id) 9):=CM fun i hi=>h i (by simp only[List.flatMap_cons,Qz];exact .inr hi)
    simp only[h0,h1]
   |_=>rfl
 have Oc:∀(m:Model) (e k:Nat),yY m e k S' args=yY m e k S args:=by
  intro m e k;unfold yY
  cases args with
  |nil=>rfl
  |cons x rest=>
   cases x with
   |own id ao=>
    have h0:S'.H id=S.H id:=h id (by simp[eX])
    have h1:rest.map (fz S'.H (some id) 9)=rest.map (fz S.H (some id) 9):=CM fun i hi=>h i (by simp only[List.flatMap_cons,Qz];exact .inr hi)
    simp only[h0,h1]
   |_=>rfl
 unfold mw
 cases hm:Γ f with
 |none=>rfl
 |some m=>
  simp only[Xt,Oc,D0,hnid,CM (ex:=none) h];split
  ·rfl
  ·rfl
  ·rfl
  split
  ·rfl
  split
  ·cases hp:args[m.pos]? with
   |none=>rfl
   |some x=>
    cases x with
    |ptr id ao off=>
     cases off with
     |zero=>
      have hmem:PV.ptr id ao 0∈args:=Q8 hp;have h0:S'.H id=S.H id:=h id (QQ.2 ⟨_,hmem,by simp[eX]⟩)
      have h1:(cutAt m.pos args).map (fz S'.H (some id) 9)=(cutAt m.pos args).map (fz S.H (some id) 9):=CM fun i hi=>by
       obtain⟨y,hy,hiy⟩:=QQ.1 hi;refine h i (QQ.2 ⟨y,?_,hiy⟩);unfold cutAt at hy;rcases Qz.1 hy with hy|hy
       ·exact Q1 hy
       ·exact Q2 hy
      simp only[h0,h1]
     |succ k=>rfl
    |_=>rfl
  ·rfl
theorem GQ:∀(ps:List (Nat×Nat×bo)) (cs:List PV),(∀t∈ps.flatMap (fun p=>p.2.2.bX),S'.env t=S.env t)->qC S' cs ps=qC S cs ps
 |[],cs,_=>rfl
 |(off,n,x)::ps,cs,h=>by
  have h0:x.val S'=x.val S:=bo.val_congr fun t ht=>h t (by simp[ht])
  simp only[qC,h0];split
  ·exact GQ ps _ fun t ht=>h t (by simp only[List.flatMap_cons,Qz];exact .inr ht)
  ·rfl
theorem GR(k:Nat):∀(ps:List (Nat×bo)) (es:List (List PV)),(∀t∈ps.flatMap (fun p=>p.2.bX),S'.env t=S.env t)->tB S' k es ps=tB S k es ps
 |[],es,_=>rfl
 |(i,x)::ps,es,h=>by
  have h0:x.val S'=x.val S:=bo.val_congr fun t ht=>h t (by simp[ht])
  simp only[tB,h0];split
  ·exact GR k ps _ fun t ht=>h t (by simp only[List.flatMap_cons,Qz];exact .inr ht)
  ·rfl
theorem Dj{x:PV}(h:∀id∈oS x,S'.H id=S.H id):kG S' x=kG S x:=by
 cases x with
 |own id ao=>have h0:S'.H id=S.H id:=h id (by simp[oS]);simp only[kG,h0]
 |view id ao k lo n=>have h0:S'.H id=S.H id:=h id (by simp[oS]);simp only[kG,h0]
 |_=>rfl
theorem KF{y:Option bo}{d:Int}(h:∀l,y=some l->l.val S'=l.val S):sy S' y d=sy S y d:=by
 cases y with
 |none=>rfl
 |some l=>simp only[sy,h l rfl]
theorem U8{op:bP}(he:∀t∈op.bX,S'.env t=S.env t)(hH:∀id∈fH nid S op,S'.H id=S.H id):exec Γ nid S' op=exec Γ nid S op:=by
 cases op with
 |ot x=>simp only[exec,bo.val_congr (x:=x) he]
 |pick c x y=>
  have h1:c.val S'=c.val S:=bo.val_congr fun t ht=>he t (by simp[bP.bX,ht])
  have h2:x.val S'=x.val S:=bo.val_congr fun t ht=>he t (by simp[bP.bX,ht])
  have h3:y.val S'=y.val S:=bo.val_congr fun t ht=>he t (by simp[bP.bX,ht])
  simp only[exec,h1,h2,h3]
 |box x=>
  have h1:x.val S'=x.val S:=bo.val_congr he;have h2:S'.H nid=S.H nid:=hH nid (by simp[fH])
  simp only[exec,h1,h2]
 |Dm x=>
  have h1:x.val S'=x.val S:=bo.val_congr he;simp only[exec,h1]
 |alloc z=>
  have h2:S'.H nid=S.H nid:=hH nid (by simp[fH])
  simp only[exec,h2]
 |load n p=>
  have h1:p.val S'=p.val S:=bo.val_congr he;simp only[exec,h1];simp only[fH]at hH
  cases hp:p.val S with
  |ptr id ao off=>rw[hp]at hH;have h2:S'.H id=S.H id:=hH id (by simp[oS]);simp only[h2]
  |eQ id ao k i off=>rw[hp]at hH;have h2:S'.H id=S.H id:=hH id (by simp[oS]);simp only[h2]
  |_=>rfl
 |store n p x=>
  have h1:p.val S'=p.val S:=bo.val_congr fun t ht=>he t (by simp[bP.bX,ht])
  have h2:x.val S'=x.val S:=bo.val_congr fun t ht=>he t (by simp[bP.bX,ht])
  simp only[exec,h1,h2];simp only[fH]at hH
  cases hp:p.val S with
  |ptr id ao off=>rw[hp]at hH;have h3:S'.H id=S.H id:=hH id (by simp[oS]);simp only[h3]
  |eQ id ao k i off=>rw[hp]at hH;have h3:S'.H id=S.H id:=hH id (by simp[oS]);simp only[h3]
  |_=>rfl
 |build z ps=>simp only[exec,GQ ps z he]
 |LL m e k z ps=>
  have h2:S'.H nid=S.H nid:=hH nid (by simp[fH])
  simp only[exec,GR k ps z he,h2]
 |zx off p=>
  have h1:p.val S'=p.val S:=bo.val_congr he;simp only[exec,h1];simp only[fH]at hH
  cases hp:p.val S with
  |ptr id ao off=>rw[hp]at hH;have h2:S'.H id=S.H id:=hH id (by simp[oS]);simp only[h2]
  |eQ id ao k i off=>rw[hp]at hH;have h2:S'.H id=S.H id:=hH id (by simp[oS]);simp only[h2]
  |_=>rfl
 |ru k x i=>
  have h1:x.val S'=x.val S:=bo.val_congr fun t ht=>he t (by simp[bP.bX,ht])
  have h2:i.val S'=i.val S:=bo.val_congr fun t ht=>he t (by simp[bP.bX,ht])
  simp only[exec,h1,h2];simp only[fH]at hH
  cases hp:x.val S with
  |own id ao=>rw[hp]at hH;have h3:S'.H id=S.H id:=hH id (by simp[oS]);simp only[h3]
  |view id ao k lo n=>rw[hp]at hH;have h3:S'.H id=S.H id:=hH id (by simp[oS]);simp only[h3]
  |_=>rfl
 |zC k len x i=>
  have h1:x.val S'=x.val S:=bo.val_congr fun t ht=>he t (by simp[bP.bX,ht])
  have h2:i.val S'=i.val S:=bo.val_congr fun t ht=>he t (by simp[bP.bX,ht])
  simp only[exec,h1,h2];simp only[fH]at hH
  cases hp:x.val S with
  |ptr id ao off=>rw[hp]at hH;have h3:S'.H id=S.H id:=hH id (by simp[oS]);simp only[h3]
  |_=>rfl
 |bin op x y=>
  have h1:x.val S'=x.val S:=bo.val_congr fun t ht=>he t (by simp[bP.bX,ht])
  have h2:y.val S'=y.val S:=bo.val_congr fun t ht=>he t (by simp[bP.bX,ht])
  simp only[exec,h1,h2]
 |lu n x y=>
  have h1:x.val S'=x.val S:=bo.val_congr fun t ht=>he t (by simp[bP.bX,ht])
  have h2:y.val S'=y.val S:=bo.val_congr fun t ht=>he t (by simp[bP.bX,ht])
  simp only[exec,h1,h2]
 |GV n x y=>
  have h1:x.val S'=x.val S:=bo.val_congr fun t ht=>he t (by simp[bP.bX,ht])
  have h2:y.val S'=y.val S:=bo.val_congr fun t ht=>he t (by simp[bP.bX,ht])
  simp only[exec,h1,h2]
 |DW n ks x y=>
  have h1:x.val S'=x.val S:=bo.val_congr fun t ht=>he t (by simp[bP.bX,ht])
  have h2:y.val S'=y.val S:=bo.val_congr fun t ht=>he t (by simp[bP.bX,ht])
  simp only[exec,h1,h2]
 |Dn e n len k x y=>
  have h1:x.val S'=x.val S:=bo.val_congr fun t ht=>he t (by simp[bP.bX,ht])
  have h2:y.val S'=y.val S:=bo.val_congr fun t ht=>he t (by simp[bP.bX,ht])
  simp only[exec,h1,h2]
 |xi x y=>
  have h1:x.val S'=x.val S:=bo.val_congr fun t ht=>he t (by simp[bP.bX,ht])
  have h2:y.val S'=y.val S:=bo.val_congr fun t ht=>he t (by simp[bP.bX,ht])
  simp only[exec,h1,h2]
 |lookup ok z x y=>
  have h1:x.val S'=x.val S:=bo.val_congr fun t ht=>he t (by simp[bP.bX,ht])
  have h2:y.val S'=y.val S:=bo.val_congr fun t ht=>he t (by simp[bP.bX,ht])
  simp only[exec,h1,h2]
 |not x=>simp only[exec,bo.val_congr (x:=x) he]
 |conv k x=>simp only[exec,bo.val_congr (x:=x) he]
 |IK n off x=>simp only[exec,bo.val_congr (x:=x) he]
 |len b x=>
  have h1:x.val S'=x.val S:=bo.val_congr he
  cases b with
  |true=>simp only[exec,h1]
  |false=>simp only[exec,h1];rw[Dj (by simpa[fH]using hH)]
 |call f xs=>simp only[exec,tT he];exact B2 (hH nid (by simp[fH])) fun id hid=>hH id (by simp only[fH,QA];exact .inr hid)
 |uq fv xs=>
  have h1:fv.val S'=fv.val S:=bo.val_congr fun t ht=>he t (by simp[bP.bX,ht])
  have h2:xs.map (·.val S')=xs.map (·.val S):=tT fun t ht=>he t (by simp only[bP.bX,Qz];exact .inr ht)
  simp only[exec,h1,h2];simp only[fH]at hH
  cases hp:fv.val S with
  |bG f caps=>
   rw[hp]at hH;refine B2 (hH nid (by simp)) fun id hid=>hH id ?_
   simp only[List.flatMap_append,Qz,QA]at hid ⊢;right;rcases hid with hid|hid
   ·exact .inr hid
   ·exact .inl (by simpa[eX]using hid)
  |jk f first=>
   rw[hp]at hH;refine B2 (hH nid (by simp)) fun id hid=>hH id ?_
   simp only[List.flatMap_append,Qz,QA]at hid ⊢;right;rcases hid with hid|hid
   ·exact .inl (by simpa[eX]using hid)
   ·exact .inr hid
  |_=>rfl
 |cQ z e k b s x=>
  have h1:s.val S'=s.val S:=bo.val_congr fun t ht=>he t (by simp[bP.bX,ht])
  have h2:x.val S'=x.val S:=bo.val_congr fun t ht=>he t (by simp[bP.bX,ht])
  have h3:S'.H nid=S.H nid:=hH nid (by simp[fH])
  have h4:kG S' (x.val S)=kG S (x.val S):=Dj fun id hid=>hH id (by simp[fH,hid])
  simp only[exec,h1,h2,h3,h4]
  cases hp:s.val S with
  |own id ao=>have h5:S'.H id=S.H id:=hH id (by simp[fH,hp,oS]);simp only[h5]
  |_=>rfl
 |zr x=>
  have h1:x.val S'=x.val S:=bo.val_congr he;simp only[exec,h1];simp only[fH]at hH
  cases hp:x.val S with
  |ptr id ao off=>rw[hp]at hH;have h2:S'.H id=S.H id:=hH id (by simp[oS]);simp only[h2]
  |_=>rfl
 |Dg i x=>simp only[exec,bo.val_congr (x:=x) he]
 |IC f caps=>simp only[exec,tT he]
 |ID f caps=>simp only[exec,tT he]
 |KR e k b z l c=>
  have h1:l.val S'=l.val S:=bo.val_congr fun t ht=>he t (by simp[bP.bX,ht])
  have h2:c.val S'=c.val S:=bo.val_congr fun t ht=>he t (by simp[bP.bX,ht])
  have h3:S'.H nid=S.H nid:=hH nid (by simp[fH])
  simp only[exec,h1,h2,h3]
 |FY k x lo hi=>
  have h1:x.val S'=x.val S:=bo.val_congr fun t ht=>he t (by simp[bP.bX,ht])
  have h2:∀l,lo=some l->l.val S'=l.val S:=fun l hl=>bo.val_congr fun t ht=>he t (by simp[bP.bX,hl,ht])
  have h3:∀l,hi=some l->l.val S'=l.val S:=fun l hl=>bo.val_congr fun t ht=>he t (by simp[bP.bX,hl,ht])
  simp only[fH]at hH;simp only[exec,h1];have h4:∀d,sy S' lo d=sy S lo d:=fun d=>KF h2
  have h5:∀d,sy S' hi d=sy S hi d:=fun d=>KF h3
  cases hp:x.val S with
  |own id ao=>rw[hp]at hH;have h6:S'.H id=S.H id:=hH id (by simp[oS]);simp only[h4,h5,h6]
  |view id ao k lo n=>rw[hp]at hH;have h6:S'.H id=S.H id:=hH id (by simp[oS]);simp only[h4,h5,h6]
  |sl es=>cases lo<;>cases hi<;>simp_all
  |_=>rfl
 |clear k z x=>
  have h1:x.val S'=x.val S:=bo.val_congr he;simp only[fH]at hH;simp only[exec,h1]
  cases hp:x.val S with
  |view id ao k lo n=>rw[hp]at hH;have h6:S'.H id=S.H id:=hH id (by simp[oS]);simp only[h6]
  |_=>rfl
 |te m x y=>
  have h1:x.val S'=x.val S:=bo.val_congr fun t ht=>he t (by simp[bP.bX,ht])
  have h2:y.val S'=y.val S:=bo.val_congr fun t ht=>he t (by simp[bP.bX,ht])
  simp only[exec,h1,h2]
 |xJ n x=>
  have h1:x.val S'=x.val S:=bo.val_congr he;have h2:kG S' (x.val S)=kG S (x.val S):=Dj (by simpa[fH]using hH)
  simp only[exec,h1];cases hx:x.val S<;>first|rfl|(rw[hx]at h2;simp only[h2])
theorem ui{α β:Type}{f g:α->List β}:∀{l:List α},(∀x∈l,f x=g x)->l.flatMap f=l.flatMap g
 |[],_=>rfl
 |x::l,h=>by simp only[List.flatMap_cons];rw[h x (by simp),ui fun y hy=>h y (by simp[hy])]
theorem Ex{H H':Nat->fT}:∀(n:Nat) (x:PV),(∀id∈eX H n x,H' id=H id)->eX H' n x=eX H n x
 |0,x,_=>by simp[eX]
 |n+1,x,h=>by
  have go:∀cs:List PV,(∀id∈cs.flatMap (eX H n),H' id=H id)->cs.flatMap (eX H' n)=cs.flatMap (eX H n):=fun cs hc=>
   ui fun y hy=>Ex n y fun id hid=>hc id (QQ.2 ⟨y,hy,hid⟩)
  cases x with
  |own id ao=>
   have h0:H' id=H id:=h id (by simp[eX])
   simp only[eX,h0]
   cases hc:(H id).c with
   |row e k es=>
    simp only;congr 1;refine ui fun y hy=>go y fun i hi=>h i ?_
    simp only[eX,hc,QA];exact .inr (QQ.2 ⟨y,hy,hi⟩)
   |dead=>rfl
   |box cs=>rfl
  |ptr id ao off=>
   have h0:H' id=H id:=h id (by simp[eX])
   simp only[eX,h0]
   cases hc:(H id).c with
   |box cs=>
    simp only;rw[go cs fun i hi=>h i (by simp only[eX,hc,QA];exact .inr hi)]
   |dead=>rfl
   |row e k es=>rfl
  |agg cs=>simp only[eX];exact go cs (by simpa[eX]using h)
  |dO cs=>simp only[eX];exact go cs (by simpa[eX]using h)
  |bG f cs=>simp only[eX];exact go cs (by simpa[eX]using h)
  |jk f cs=>simp only[eX];exact go cs (by simpa[eX]using h)
  |_=>simp[eX]
theorem Iw{H H':Nat->fT}{n:Nat}{xs:List PV}(h:∀id∈xs.flatMap (eX H n),H' id=H id):xs.flatMap (eX H' n)=xs.flatMap (eX H n):=
 ui fun y hy=>Ex n y fun id hid=>h id (QQ.2 ⟨y,hy,hid⟩)
theorem Uu{op:bP}(he:∀t∈op.bX,S'.env t=S.env t)(hH:∀id∈fH nid S op,S'.H id=S.H id):fH nid S' op=fH nid S op:=by
 cases op with
 |load n p=>simp only[fH,bo.val_congr (x:=p) he]
 |zx off p=>simp only[fH,bo.val_congr (x:=p) he]
 |zr p=>simp only[fH,bo.val_congr (x:=p) he]
 |store n p x=>
  have h1:p.val S'=p.val S:=bo.val_congr fun t ht=>he t (by simp[bP.bX,ht])
  simp only[fH,h1]
 |ru k x i=>
  have h1:x.val S'=x.val S:=bo.val_congr fun t ht=>he t (by simp[bP.bX,ht])
  simp only[fH,h1]
 |zC k l x i=>
  have h1:x.val S'=x.val S:=bo.val_congr fun t ht=>he t (by simp[bP.bX,ht])
  simp only[fH,h1]
 |xJ n x=>simp only[fH,bo.val_congr (x:=x) he]
 |clear k z x=>simp only[fH,bo.val_congr (x:=x) he]
 |FY k x lo hi=>
  have h1:x.val S'=x.val S:=bo.val_congr fun t ht=>he t (by simp[bP.bX,ht])
  simp only[fH,h1]
 |len b x=>
  cases b with
  |true=>rfl
  |false=>simp only[fH,bo.val_congr (x:=x) he]
 |cQ z e k b s x=>
  have h1:s.val S'=s.val S:=bo.val_congr fun t ht=>he t (by simp[bP.bX,ht])
  have h2:x.val S'=x.val S:=bo.val_congr fun t ht=>he t (by simp[bP.bX,ht])
  simp only[fH,h1,h2]
 |call f xs=>
  simp only[fH,tT he];rw[Iw fun id hid=>hH id (by simp only[fH,QA];exact .inr hid)]
 |uq fv xs=>
  have h1:fv.val S'=fv.val S:=bo.val_congr fun t ht=>he t (by simp[bP.bX,ht])
  have h2:xs.map (·.val S')=xs.map (·.val S):=tT fun t ht=>he t (by simp only[bP.bX,Qz];exact .inr ht)
  simp only[fH,QA,Qz]at hH;simp only[fH,h1,h2];rw[Ex 10 _ fun id hid=>hH id (.inr (.inl hid)),Iw fun id hid=>hH id (.inr (.inr hid))]
 |_=>rfl
def z1(Γ:ow)(nid:Nat)(S:St)(g:SG):Option (PV×Option (Nat×fT)):=
 match g.wanted S with
 |some true=>exec Γ nid S g.op
 |some false=>some (.undef,none)
 |none=>none
def DV(nid:Nat)(S:St)(g:SG):List Nat:=
 match g.wanted S with
 |some true=>fH nid S g.op
 |_=>[]
theorem Ta(g:SG):u9 Γ nid S g=(z1 Γ nid S g).map fun p=>S.cQ g.d p.1 p.2:=by
 unfold u9 z1
 cases g.wanted S with
 |none=>rfl
 |some b=>cases b<;>rfl
theorem FR{g:SG}(he:∀t∈g.bX,S'.env t=S.env t):g.wanted S'=g.wanted S:=by
 unfold SG.wanted
 cases hg:g.g with
 |none=>rfl
 |some p=>
  obtain⟨t,want⟩:=p;simp only;rw[he t (by simp[SG.bX,hg])]
theorem N7{g:SG}(he:∀t∈g.bX,S'.env t=S.env t)(hH:∀id∈DV nid S g,S'.H id=S.H id):z1 Γ nid S' g=z1 Γ nid S g:=by
 unfold z1;rw[FR he];unfold DV at hH
 cases hw:g.wanted S with
 |none=>rfl
 |some b=>
  cases b with
  |false=>rfl
  |true=>
   rw[hw]at hH;exact U8 (fun t ht=>he t (by simp[SG.bX,ht])) hH
theorem NZ{g:SG}(he:∀t∈g.bX,S'.env t=S.env t)(hH:∀id∈DV nid S g,S'.H id=S.H id):DV nid S' g=DV nid S g:=by
 unfold DV;rw[FR he];unfold DV at hH
 cases hw:g.wanted S with
 |none=>rfl
 |some b=>
  cases b with
  |false=>rfl
  |true=>
   rw[hw]at hH;exact Uu (fun t ht=>he t (by simp[SG.bX,ht])) hH
structure uU where
 d:Option Nat
 us:List Nat
 rd:List Nat
 wr:Option Nat
structure VF (p q:uU):Prop where
 d1:∀t,p.d=some t->t∉q.us
 d2:∀t,q.d=some t->t∉p.us
 dd:∀t,p.d=some t->q.d≠some t
 w1:∀i,p.wr=some i->i∉q.rd
 w2:∀i,q.wr=some i->i∉p.rd
 ww:∀i,p.wr=some i->q.wr≠some i
def Dd(nid:Nat)(S:St)(g:SG)(p:PV×Option (Nat×fT)):uU:=⟨g.d,g.bX,DV nid S g,p.2.map (·.1)⟩
def oh(Γs:Nat->ow)(base:Nat):List (Nat×SG)->St->Option (St×List uU)
 |[],S=>some (S,[])
 |(i,g)::l,S=>
  match z1 (Γs i) (base+i) S g with
  |none=>none
  |some p=>
   match oh Γs base l (S.cQ g.d p.1 p.2)with
   |none=>none
   |some (S',fs)=>some (S',Dd (base+i) S g p::fs)
theorem St.mi(d:Option Nat)(x:PV)(wr:Option (Nat×fT)){t:Nat}(h:d≠some t):(S.cQ d x wr).env t=S.env t:=by
 cases d with
 |none=>rfl
 |some d=>exact cD _ _ (fun e=>h (by rw[e]))
theorem St.Fl(d:Option Nat)(x:PV)(wr:Option (Nat×fT)){i:Nat}(h:wr.map (·.1)≠some i):(S.cQ d x wr).H i=S.H i:=by
 cases wr with
 |none=>rfl
 |some p=>exact cD _ _ (fun e=>h (by rw[e];rfl))
theorem O5{α:Type}(f:Nat->α){i j:Nat}(x y:α)(h:i≠j):bO (bO f i x) j y=bO (bO f j y) i x:=by
 funext k
 simp only[bO];split<;>split<;>first|rfl|omega
theorem St.Y8(d e:Option Nat)(x y:PV)(p q:Option (Nat×fT))(hd:∀t,d=some t->e≠some t)(hw:∀i,p.map (·.1)=some i->q.map (·.1)≠some i):(S.cQ d x p).cQ e y q=(S.cQ e y q).cQ d x p:=by
 unfold St.cQ;congr 1
 ·cases d with
  |none=>rfl
  |some d=>
   cases e with
   |none=>rfl
   |some e=>exact O5 _ _ _ (fun h=>hd d rfl (by rw[h]))
 ·cases p with
  |none=>rfl
  |some p=>
   cases q with
   |none=>rfl
   |some q=>exact O5 _ _ _ (fun h=>hw p.1 rfl (by rw[h];rfl))
theorem F8{Γs:Nat->ow}{base:Nat}:∀(l1:List (Nat×SG)) (i:Nat) (g:SG) (l2:List (Nat×SG)) (S S':St) (fs:List uU),oh Γs base (l1++(i,g)::l2) S=some (S',fs)->
  (∀(k:Nat) (fk fi:uU),k<l1.length->fs[k]?=some fk->fs[l1.length]?=some fi->VF fk fi)->
  ∃p,z1 (Γs i) (base+i) S g=some p/\(∀fi,fs[l1.length]?=some fi->fi=Dd (base+i) S g p)/\oh Γs base (l1++l2) (S.cQ g.d p.1 p.2)=some (S',fs.eraseIdx l1.length)
 |[],i,g,l2,S,S',fs,h,_=>by
  simp only[List.nil_append,oh]at h;split at h
  ·cases h
  ·rename_i p hp;split at h
   ·cases h
   ·rename_i S1 fs1 h1;injection h with h
    injection h with h2 h3
    subst h2 h3;exact⟨p,hp,fun fi hfi=>by simp at hfi;exact hfi.symm,by simpa using h1⟩
 |(x,gx)::l1,i,g,l2,S,S',fs,h,hi=>by
  simp only[List.cons_append,oh]at h;split at h
  ·cases h
  ·rename_i px hpx;split at h
   ·cases h
   ·rename_i S1 fs1 h1;injection h with h
    injection h with h2 h3
    subst h2 h3;obtain⟨p,hp,hfp,hrest⟩:=F8 l1 i g l2 (S.cQ gx.d px.1 px.2) S1 fs1 h1 (fun k fk fi hk hfk hfi=>hi (k+1) fk fi (by simp;omega) (by simpa using hfk) (by simpa using hfi))
    have hlen:l1.length<fs1.length:=by
     have:∀(l:List (Nat×SG)) (S:St) (S':St) (fs:List uU),oh Γs base l S=some (S',fs)->fs.length=l.length:=by
      intro l
      induction l with
      |nil=>intro S S' fs h;simp only[oh,Qf,Prod.mk.injEq]at h;rw[<-h.2];rfl
      |cons q l ih=>
       intro S S' fs h;obtain⟨j,gj⟩:=q;simp only[oh]at h;split at h
       ·cases h
       ·split at h
        ·cases h
        ·rename_i S2 fs2 h2;injection h with h
         injection h with h3 h4
         subst h4;simp[ih _ _ _ h2]
     rw[this _ _ _ _ h1];simp
    have hfi:=hfp _ (Qv hlen);have hind:=hi 0 (Dd (base+x) S gx px) _ (by simp) (by simp) (show(Dd (base+x) S gx px::fs1)[l1.length+1]?=some fs1[l1.length]by rw[List.getElem?_cons_succ];exact Qv hlen)
    rw[hfi]at hind;have he:∀t∈g.bX,S.env t=(S.cQ gx.d px.1 px.2).env t:=fun t ht=>(St.mi _ _ _ (fun e=>hind.d1 t e ht)).symm
    have hH:∀id∈DV (base+i) (S.cQ gx.d px.1 px.2) g,S.H id=(S.cQ gx.d px.1 px.2).H id:=fun id hid=>(St.Fl _ _ _ (fun e=>hind.w1 id e hid)).symm
    have hp':z1 (Γs i) (base+i) S g=some p:=(N7 he hH).trans hp;have hg':=NZ (nid:=base+i) he hH;have hex:∀t∈gx.bX,(S.cQ g.d p.1 p.2).env t=S.env t:=fun t ht=>St.mi _ _ _ (fun e=>hind.d2 t e ht)
    have hHx:∀id∈DV (base+x) S gx,(S.cQ g.d p.1 p.2).H id=S.H id:=fun id hid=>St.Fl _ _ _ (fun e=>hind.w2 id e hid)
    have hpx':z1 (Γs x) (base+x) (S.cQ g.d p.1 p.2) gx=some px:=(N7 hex hHx).trans hpx;have hgx':=NZ (nid:=base+x) hex hHx;have hcomm:(S.cQ g.d p.1 p.2).cQ gx.d px.1 px.2=(S.cQ gx.d px.1 px.2).cQ g.d p.1 p.2:=(St.Y8 _ _ _ _ _ _ hind.dd hind.ww).symm;refine⟨p,hp',fun fi hf=> ?_,?_⟩
    ·have:fi=fs1[l1.length]:=by
      have h5:(Dd (base+x) S gx px::fs1)[l1.length+1]?=some fi:=by simpa using hf
      simp only[List.getElem?_cons_succ,Qv hlen,Qf]at h5;exact h5.symm
     rw[this,hfi];simp only[Dd,hg']
    ·simp only[List.cons_append,oh,hpx',hcomm,hrest,QE,List.eraseIdx_cons_succ];congr 2;simp only[Dd,hgx']
end
section
variable {P : Program} {E : En} {Γ : ow} {hs : List Nat}
def vP(o:Oper):Nat:=o.after.toList.foldl (fun m e=>if Region.binds .any e then m|||(1<<<e.on)else m) 0
def Xx(ds:List Nat)(M:Nat):Nat:=ds.zipIdx.foldl (fun m p=>if M.testBit p.2 then m|||p.1 else m) M
def B8(ds:List Nat):Nat->Nat->Nat
 |0,M=>M
 |n+1,M=>B8 ds n (Xx ds M)
theorem Sp(i j:Nat):(1<<<i).testBit j=decide (j=i):=by
 rw[Nat.one_shiftLeft,Nat.testBit_two_pow];exact decide_eq_decide.2 ⟨fun h=>h.symm,fun h=>h.symm⟩
theorem RB{o:Oper}{R:Nat->Prop}(h:∀e∈o.after,Region.binds .any e=true->R e.on):∀j,(vP o).testBit j=true->R j:=by
 have:∀(l:List Edge) (m:Nat),(∀e∈l,Region.binds .any e=true->R e.on)->(∀j,m.testBit j=true->R j)->∀j,(l.foldl (fun m e=>if Region.binds .any e then m|||(1<<<e.on)else m) m).testBit j=true->R j:=by
  intro l
  induction l with
  |nil=>intro m _ hm j hj;exact hm j hj
  |cons e l ih=>
   intro m hl hm j hj;refine ih _ (fun e' he'=>hl e' (by simp[he'])) ?_ j hj
   intro k hk;simp only at hk;split at hk
   ·rename_i hb;rw[Nat.testBit_or,Qn,Sp,Qi]at hk;rcases hk with hk|hk
    ·exact hm k hk
    ·rw[hk];exact hl e (by simp) hb
   ·exact hm k hk
 exact this o.after.toList 0 (fun e he=>h e (by simpa using he)) (fun j hj=>by simp at hj)
theorem Xw{ds:List Nat}{R:Nat->Prop}(hd:∀i d,ds[i]?=some d->R i->∀j,d.testBit j=true->R j){M:Nat}(hM:∀j,M.testBit j=true->R j):∀j,(Xx ds M).testBit j=true->R j:=by
 have:∀(l:List (Nat×Nat)) (m:Nat),(∀p∈l,R p.2->∀j,p.1.testBit j=true->R j)->(∀j,m.testBit j=true->R j)->∀j,(l.foldl (fun m p=>if M.testBit p.2 then m|||p.1 else m) m).testBit j=true->R j:=by
  intro l
  induction l with
  |nil=>intro m _ hm j hj;exact hm j hj
  |cons p l ih=>
   intro m hl hm j hj;refine ih _ (fun q hq=>hl q (by simp[hq])) ?_ j hj
   intro k hk;simp only at hk;split at hk
   ·rename_i hb;rw[Nat.testBit_or,Qn]at hk;rcases hk with hk|hk
    ·exact hm k hk
    ·exact hl p (by simp) (hM _ hb) k hk
   ·exact hm k hk
 refine this ds.zipIdx M (fun p hp hR j hj=> ?_) hM
 obtain⟨d,i⟩:=p;rw[List.mem_zipIdx_iff_getElem?]at hp;exact hd i d hp hR j hj
theorem Oi{ds:List Nat}{R:Nat->Prop}(hd:∀i d,ds[i]?=some d->R i->∀j,d.testBit j=true->R j):∀(n M:Nat),(∀j,M.testBit j=true->R j)->∀j,(B8 ds n M).testBit j=true->R j
 |0,_,hM=>hM
 |n+1,_,hM=>Oi hd n _ (Xw hd hM)
def Mi(ops:List Oper):List (Nat×Nat):=
 let ds:=ops.map vP
 (List.range ops.length).flatMap fun j=>
  let M:=B8 ds ops.length (ds.getD j 0)
  (List.range j).filterMap fun i=>if M.testBit i then none else some (i,j)
def MV(g h:SG):Bool:=
 (match g.d with|some t=> !h.bX.contains t&&h.d !=some t|none=>true)&&(match h.d with|some t=> !g.bX.contains t|none=>true)
def BV(p q:uU):Bool:=
 (match p.wr with|some i=> !q.rd.contains i&&q.wr !=some i|none=>true)&&(match q.wr with|some i=> !p.rd.contains i|none=>true)
def Vn(ops:List Oper)(gs:List SG):Option (List (Nat×Nat)):=
 let un:=Mi ops
 if un.all (fun p=>match gs[p.1]?,gs[p.2]? with|some g,some h=>MV g h|_,_=>false)&&ops.zipIdx.all (fun p=>p.1.after.toList.all fun e=> !Region.binds .any e||decide (e.on<p.2))then
  some (un.filter fun p=>match gs[p.1]?,gs[p.2]? with|some g,some h=>g.op.qu&&h.op.qu|_,_=>true)
 else none
def Mo(Γs:Nat->ow)(base:Nat)(un:List (Nat×Nat))(gs:List SG)(S:St):Option St:=
 match oh Γs base (gs.zipIdx.map fun p=>(p.2,p.1)) S with
 |none=>none
 |some (S',fs)=>if un.all (fun p=>match fs[p.1]?,fs[p.2]? with|some a,some b=>BV a b|_,_=>false)then some S' else none
theorem Pr{nid:Nat}{S:St}{op:bP}(h:op.qu=false):fH nid S op=[]:=by
 cases op with
 |len b x=>cases b<;>simp_all [bP.qu,fH]
 |_=>simp_all [bP.qu,fH]
theorem Ud{nid:Nat}{S:St}{op:bP}(h:op.qu=false){p:PV×Option (Nat×fT)}(he:exec Γ nid S op=some p):p.2=none:=by
 cases op with
 |ot x=>simp only[exec,Qf]at he;rw[<-he]
 |pick c x y=>
  simp only[exec]at he;split at he<;>first|(injection he with he;rw[<-he])|cases he
 |bin op x y=>simp only[exec,Qb]at he;obtain⟨_,_,rfl⟩:=he;rfl
 |lu n x y=>
  simp only[exec]at he;split at he
  ·split at he
   ·injection he with he;rw[<-he]
   ·cases he
  ·cases he
 |GV n x y=>
  simp only[exec]at he;split at he
  ·injection he with he;rw[<-he]
  ·cases he
 |Dn e n len k x y=>
  simp only[exec]at he;split at he
  ·split at he
   ·simp only[Qb]at he;obtain⟨_,_,rfl⟩:=he;rfl
   ·cases he
  ·cases he
 |xi x y=>
  simp only[exec]at he;split at he
  ·simp only[Qb]at he;obtain⟨_,_,rfl⟩:=he;rfl
  ·cases he
 |lookup ok z x y=>
  simp only[exec]at he;split at he
  ·simp only[Qb]at he;obtain⟨_,_,rfl⟩:=he;rfl
  ·cases he
 |not x=>
  simp only[exec]at he;split at he<;>first|(injection he with he;rw[<-he])|cases he
 |conv k x=>
  simp only[exec]at he;split at he<;>first|(injection he with he;rw[<-he])|cases he
 |Dg i x=>
  simp only[exec]at he;split at he
  ·simp only[Qb]at he;obtain⟨_,_,rfl⟩:=he;rfl
  ·cases he
 |IK n off x=>
  simp only[exec]at he;split at he
  ·simp only[Qb]at he;obtain⟨_,_,rfl⟩:=he;rfl
  ·cases he
 |IC f c=>simp only[exec,Qf]at he;rw[<-he]
 |Dm x=>
  simp only[exec]at he;split at he
  ·injection he with he;rw[<-he]
  ·cases he
 |ID f c=>simp only[exec,Qf]at he;rw[<-he]
 |DW n ks x y=>
  simp only[exec]at he;split at he
  ·simp only[Qb]at he;obtain⟨_,_,rfl⟩:=he;rfl
  ·cases he
 |build z ps=>simp only[exec,Qb]at he;obtain⟨_,_,rfl⟩:=he;rfl
 |te m x y=>
  simp only[exec]at he;split at he
  ·split at he
   ·injection he with he;rw[<-he]
   ·cases he
  ·cases he
 |len b x=>
  cases b with
  |true=>
   simp only[exec]at he;split at he<;>first|(injection he with he;rw[<-he])|cases he
  |false=>simp[bP.qu]at h
 |_=>simp[bP.qu]at h
theorem Mn{Γs:Nat->ow}{base:Nat}:∀(l:List (Nat×SG)) (S S':St) (fs:List uU),oh Γs base l S=some (S',fs)->fs.length=l.length/\∀(k i:Nat) (g:SG) (f:uU),l[k]?=some (i,g)->fs[k]?=some f->
  f.d=g.d/\f.us=g.bX/\(g.op.qu=false->f.rd=[]/\f.wr=none)
 |[],S,S',fs,h=>by simp only[oh,Qf,Prod.mk.injEq]at h;rw[<-h.2];exact⟨rfl,fun k i g f hk=>by simp at hk⟩
 |(j,gj)::l,S,S',fs,h=>by
  simp only[oh]at h;split at h
  ·cases h
  ·rename_i p hp;split at h
   ·cases h
   ·rename_i S2 fs2 h2;injection h with h
    injection h with h3 h4
    subst h4;obtain⟨h5,h6⟩:=Mn l _ _ _ h2;refine⟨by simp[h5],fun k i g f hk hf=> ?_⟩
    cases k with
    |zero=>
     simp only[List.getElem?_cons_zero,Qf,Prod.mk.injEq]at hk hf;obtain⟨rfl,rfl⟩:=hk;subst hf;refine⟨rfl,rfl,fun ht=> ?_⟩
     unfold z1 at hp;simp only[Dd,DV];split at hp
     ·rename_i hw;rw[hw];exact⟨Pr ht,by rw[Ud ht hp];rfl⟩
     ·rename_i hw;injection hp with hp
      subst hp;rw[hw];exact⟨rfl,rfl⟩
     ·cases hp
    |succ k=>exact h6 k i g f (by simpa using hk) (by simpa using hf)
def oQ(gs:List SG)(listed:Array Bool):List (Nat×SG):=(gs.zipIdx.map fun p=>(p.2,p.1)).filter fun p=> !listed.getD p.1 true
theorem BJ{gs:List SG}{listed:Array Bool}{i:Nat}{g:SG}:(i,g)∈oQ gs listed↔gs[i]?=some g/\listed.getD i true=false:=by
 unfold oQ;simp only[List.mem_filter,QP,Prod.mk.injEq,Prod.exists,Bool.not_eq_true'];constructor
 ·rintro⟨⟨x,j,h1,rfl,rfl⟩,h2⟩;rw[List.mem_zipIdx_iff_getElem?]at h1;exact⟨h1,h2⟩
 ·rintro⟨h1,h2⟩;exact⟨⟨g,i,by rw[List.mem_zipIdx_iff_getElem?];exact h1,rfl,rfl⟩,h2⟩
theorem Iz(gs:List SG)(listed:Array Bool):(oQ gs listed).Pairwise fun p q=>p.1<q.1:=by
 unfold oQ;refine List.Pairwise.filter _ ?_;rw[List.pairwise_map]
 have:∀(l:List SG) (k:Nat),(l.zipIdx k).Pairwise fun p q=>p.2<q.2:=by
  intro l
  induction l with
  |nil=>intro k;simp
  |cons x l ih=>
   intro k;rw[List.zipIdx_cons,Q4];refine⟨fun q hq=> ?_,ih (k+1)⟩
   obtain⟨y,j⟩:=q;have:=List.le_snd_of_mem_zipIdx hq;simp only at this ⊢;omega
 exact this gs 0
theorem Jf{gs:List SG}{listed:Array Bool}{i:Nat}{g:SG}{l1 l2:List (Nat×SG)}(hi:i<listed.size)(h:oQ gs listed=l1++(i,g)::l2):oQ gs (listed.setIfInBounds i true)=l1++l2:=by
 have hsort:=Iz gs listed;rw[h]at hsort
 have h1:oQ gs (listed.setIfInBounds i true)=(oQ gs listed).filter fun p=>decide (p.1≠i):=by
  unfold oQ;rw[List.filter_filter];congr 1
  funext p
  by_cases hp:p.1=i
  ·rw[hp];simp[QN,Array.getElem?_setIfInBounds_self_of_lt hi]
  ·have:(listed.setIfInBounds i true).getD p.1 true=listed.getD p.1 true:=by
    simp only[QN];rw[Array.getElem?_setIfInBounds_ne (fun e=>hp e.symm)]
   rw[this];simp[hp]
 rw[h1,h,List.filter_append,List.filter_cons];simp only[ne_eq,not_true_eq_false,decide_false,Qq,Qu];rw[Qq69]at hsort;obtain⟨_,s2,s3⟩:=hsort;rw[Q4]at s2;rw[List.filter_eq_self.2,List.filter_eq_self.2]
 ·intro q hq;have:=s2.1 q hq;simp only at this;simp;omega
 ·intro q hq;have:=s3 q hq (i,g) (by simp)
  simp only at this;simp;omega
def yl(ops:List Oper)(l:List (Nat×SG))(fs:List uU):Prop:=
 ∀(a b:Nat) (p q:Nat×SG) (f h:uU),a<b->l[a]?=some p->l[b]?=some q->fs[a]?=some f->fs[b]?=some h->(B8 (ops.map vP) ops.length ((ops.map vP).getD q.1 0)).testBit p.1=false->VF f h
theorem YJ{Γs:Nat->ow}(hΓ:∀i,nQ P (Γs i)){ops:Array Oper}{gs:List SG}(hc:ops.toList.mapM (vw P hs ops)=some gs)(hd:∀o∈ops.toList,∀t,o.dst=some t->E.can t){base:Nat}{S':St}{Q:Exit->Act->World->Prop}
  (hQ:∀a' w' L',Rel E S' a' w' L'->Q .normal a' w'):∀(fuel:Nat) (listed:Array Bool) (S:St) (a:Act) (w:World) (L:Nat->Value) (fs:List uU),listed.size=ops.size->
  (∀i o,ops[i]?=some o->listed.getD i true=true->∀e∈o.after,Region.binds .any e=true->listed.getD e.on true=true)->
  (∀i o,ops[i]?=some o->∀e∈o.after,Region.binds .any e=true->e.on<i)->
  Rel E S a w L->base+ops.size<=S.N->oh Γs base (oQ gs listed) S=some (S',fs)->yl ops.toList (oQ gs listed) fs->(oQ gs listed).length<=fuel->wpAnyIn (WF E.rd) 0 P .any ops Q fuel listed a w:=by
 have hgl:gs.length=ops.size:=by have:=vk hc;simpa using this
 intro fuel
 induction fuel with
 |zero=>
  intro listed S a w L fs hsz hcl hback h hN hrun hap hfu;have hp:oQ gs listed=[]:=Qq67 (by omega)
  rw[hp]at hrun;simp only[oh,Qf,Prod.mk.injEq]at hrun
  have hrd:Region.ready .any ops listed=[]:=by
   rw[List.eq_nil_iff_forall_not_mem];intro i hi;simp only[Region.ready,List.mem_filter,List.mem_range,Qm,Bool.not_eq_true']at hi;obtain⟨h1,h2,_⟩:=hi;have:(i,gs[i]'(by omega))∈oQ gs listed:=BJ.2 ⟨Qv (by omega),h2⟩
   rw[hp]at this;cases this
  refine⟨hrd,?_⟩;rw[hrun.1]at h;exact hQ a w L h
 |succ fuel ih=>
  intro listed S a w L fs hsz hcl hback h hN hrun hap hfu;refine⟨fun hrd=> ?_,fun i hi=> ?_⟩
  ·
   have hp:oQ gs listed=[]:=by
    rcases hpe:oQ gs listed with _|⟨⟨i,g⟩,l⟩
    ·rfl
    ·exfalso;have hmem:(i,g)∈oQ gs listed:=by rw[hpe];simp
     obtain⟨h1,h2⟩:=BJ.1 hmem;have hil:i<ops.size:=by have:=(Qw.1 h1).1;omega
     have hmin:∀j,j<i->listed.getD j true=true:=by
      intro j hj
      cases hlj:listed.getD j true with
      |true=>rfl
      |false=>
       have hm:(j,gs[j]'(by omega))∈oQ gs listed:=BJ.2 ⟨Qv (by omega),hlj⟩
       have hs:=Iz gs listed;rw[hpe,Q4]at hs;rw[hpe]at hm;rcases QA.1 hm with hm|hm
       ·injection hm with hm;omega
       ·have:=hs.1 _ hm;simp only at this;omega
     have:i∈Region.ready .any ops listed:=by
      simp only[Region.ready,List.mem_filter,List.mem_range,Qm,Bool.not_eq_true'];refine⟨hil,h2,?_⟩;rw[Array.getElem?_eq_getElem hil];simp only[Qe,Q3,Array.all_eq_true_iff_forall_mem,Qn,Bool.not_eq_true'];intro e he
      cases hb:Region.binds .any e with
      |false=>exact .inl rfl
      |true=>
       right;have hlt:=hback i _ (Array.getElem?_eq_getElem hil) e he hb;have:=hmin e.on hlt;rw[QN]at this ⊢;rw[Array.getElem?_eq_getElem (by omega)]at this ⊢
       simpa using this
     rw[hrd]at this;cases this
   rw[hp]at hrun;simp only[oh,Qf,Prod.mk.injEq]at hrun;rw[hrun.1]at h;exact hQ a w L h
  ·simp only[Region.ready,List.mem_filter,List.mem_range,Qm,Bool.not_eq_true']at hi;obtain⟨hil,hli,hpre⟩:=hi;have ho:ops[i]?=some ops[i]:=Array.getElem?_eq_getElem hil;rw[ho]at hpre;simp only[Qe,Q3,Array.all_eq_true_iff_forall_mem,Qn,Bool.not_eq_true']at hpre;have hgi:gs[i]?=some (gs[i]'(by omega)):=Qv (by omega)
   have hmem:(i,gs[i]'(by omega))∈oQ gs listed:=BJ.2 ⟨hgi,hli⟩
   obtain⟨l1,l2,hsplit⟩:=List.append_of_mem hmem;rw[hsplit]at hrun hap
   have hpreT:∀e∈ops[i].after,Region.binds .any e=true->listed.getD e.on true=true:=fun e he hb=>by
    rcases hpre e he with h1|h1
    ·rw[hb]at h1;cases h1
    ·have hlt:=hback i _ ho e he hb;rw[QN]at h1 ⊢;rw[Array.getElem?_eq_getElem (by omega)]at h1 ⊢
     simpa using h1
   have hanc:∀j,(B8 (ops.toList.map vP) ops.toList.length ((ops.toList.map vP).getD i 0)).testBit j=true->listed.getD j true=true:=by
    refine Oi (R:=fun j=>listed.getD j true=true) (fun k d hk hR=> ?_) _ _ ?_
    ·rw[QT,Qb]at hk;obtain⟨o,ho',rfl⟩:=hk;exact RB (fun e he hb=>hcl k o (by simpa using ho') hR e he hb)
    ·have:(ops.toList.map vP).getD i 0=vP ops[i]:=by simp[List.getD_eq_getElem?_getD,hil]
     rw[this];exact RB (fun e he hb=>hpreT e he hb)
   have hfl:=(Mn _ _ _ _ hrun).1
   obtain⟨p,hp,_,hrest⟩:=F8 l1 i _ l2 S S' fs hrun (fun k fk fi hk hfk hfi=>by
    have hk1:(l1++(i,gs[i]'(by omega))::l2)[k]?=some l1[k]:=by rw[List.getElem?_append_left hk];exact Qv hk
    refine hap k l1.length l1[k] (i,gs[i]'(by omega)) fk fi hk hk1 (by simp) hfk hfi ?_
    cases hb:(B8 (ops.toList.map vP) ops.toList.length ((ops.toList.map vP).getD i 0)).testBit l1[k].1 with
    |false=>rfl
    |true=>
     have h1:=hanc _ hb;have h2:l1[k]∈oQ gs listed:=by rw[hsplit];simp[Q0]
     have h3:=(BJ (i:=l1[k].1) (g:=l1[k].2)).1 h2;rw[h3.2]at h1
     cases h1)
   have hcog:vw P hs ops ops[i]=some (gs[i]'(by omega)):=by
    have:∀(l:List Oper) (r:List SG),l.mapM (vw P hs ops)=some r->∀(k:Nat) (o:Oper) (g:SG),l[k]?=some o->r[k]?=some g->vw P hs ops o=some g:=by
     intro l
     induction l with
     |nil=>intro r _ k o g hk;simp at hk
     |cons x l ihl=>
      intro r hr k o g hk hg;simp only[Qq75,Qd,Qc,Option.pure_def,Qf]at hr;obtain⟨y,hy,ys,hys,rfl⟩:=hr
      cases k with
      |zero=>simp at hk hg;subst hk hg;exact hy
      |succ k=>exact ihl ys hys k o g (by simpa using hk) (by simpa using hg)
    exact this _ _ hc i _ _ (by simp) hgi
   have hstp:u9 (Γs i) (base+i) S (gs[i]'(by omega))=some (S.cQ (gs[i]'(by omega)).d p.1 p.2):=by rw[Ta,hp];rfl
   have hstep:=wV (K:=wpAnyIn (WF E.rd) 0 P .any ops Q fuel (listed.setIfInBounds i true)) (Q:=Q) (hΓ i) hcog h (nid:=base+i) (by omega) (hd _ (by simp)) hstp (fun a' w' L' h'=>by
    refine ih _ _ a' w' L' (fs.eraseIdx l1.length) (by simpa using hsz) (fun k o hk hlk e he hb=> ?_) hback h' hN (by rw[Jf (by omega) hsplit];exact hrest) ?_ ?_
    ·by_cases hki:k=i
     ·subst hki;rw[ho]at hk;injection hk with hk
      subst hk;have hlt:=hback k _ ho e he hb;have:=hpreT e he hb;simp only[QN]at this ⊢;rw[Array.getElem?_setIfInBounds_ne (by omega)]
      exact this
     ·have hlk':listed.getD k true=true:=by
       simp only[QN]at hlk ⊢;rw[Array.getElem?_setIfInBounds_ne (fun e=>hki e.symm)]at hlk
       exact hlk
      have:=hcl k o hk hlk' e he hb
      by_cases hei:e.on=i
      ·rw[hei,QN,Array.getElem?_setIfInBounds_self_of_lt (by omega)]
       rfl
      ·simp only[QN]at this ⊢;rw[Array.getElem?_setIfInBounds_ne (fun e=>hei e.symm)]
       exact this
    ·rw[Jf (by omega) hsplit]
     intro x y p' q' f h0 hxy hp' hq' hf hh hanc'
     have hget:∀(z:Nat),(l1++l2)[z]?=(l1++(i,gs[i]'(by omega))::l2)[if z<l1.length then z else z+1]?:=by
      intro z;split
      ·rename_i hz;rw[List.getElem?_append_left hz,List.getElem?_append_left hz]
      ·rename_i hz;rw[List.getElem?_append_right (by omega),List.getElem?_append_right (by omega)]
       have:z+1 - l1.length=(z - l1.length)+1:=by omega
       rw[this,List.getElem?_cons_succ]
     have hgetf:∀(z:Nat),(fs.eraseIdx l1.length)[z]?=fs[if z<l1.length then z else z+1]?:=by
      intro z;rw[List.getElem?_eraseIdx];split<;>rfl
     rw[hget]at hp' hq';rw[hgetf]at hf hh;refine hap _ _ p' q' f h0 ?_ hp' hq' hf hh hanc';split<;>split<;>omega
    ·rw[Jf (by omega) hsplit]
     rw[hsplit]at hfu;simp at hfu ⊢
     omega)
   unfold wpOpIn;rw[ho];simp only;split
   ·rename_i hw;rw[Qr hw]at hstep;exact hstep
   ·rename_i hw;rw[Qs hw]at hstep;exact hstep
theorem SL{ops:List Oper}{i j:Nat}(hj:j<ops.length)(hij:i<j)(h:(B8 (ops.map vP) ops.length ((ops.map vP).getD j 0)).testBit i=false):(i,j)∈Mi ops:=by
 unfold Mi;simp only[QQ,List.mem_range,List.mem_filterMap];exact⟨j,hj,i,hij,by rw[h];rfl⟩
theorem YB{g h:SG}{f e:uU}(hf:f.d=g.d/\f.us=g.bX)(he:e.d=h.d/\e.us=h.bX)(ha:MV g h=true)(hi:BV f e=true):VF f e:=by
 unfold MV at ha;unfold BV at hi;rw[Qm]at ha hi;obtain⟨a1,a2⟩:=ha;obtain⟨i1,i2⟩:=hi;refine⟨fun t ht=> ?_,fun t ht=> ?_,fun t ht hq=> ?_,fun i hw=> ?_,fun i hw=> ?_,fun i hw hq=> ?_⟩
 ·rw[hf.1]at ht;rw[ht]at a1;simp only[Qm,Bool.not_eq_true',List.contains_eq_mem,Qj]at a1;rw[he.2];exact a1.1
 ·rw[he.1]at ht;rw[ht]at a2;simp only[Bool.not_eq_true',List.contains_eq_mem,Qj]at a2;rw[hf.2];exact a2
 ·rw[hf.1]at ht;rw[he.1]at hq;rw[ht,hq]at a1;simp at a1
 ·rw[hw]at i1;simp only[Qm,Bool.not_eq_true',List.contains_eq_mem,Qj]at i1;exact i1.1
 ·rw[hw]at i2;simp only[Bool.not_eq_true',List.contains_eq_mem,Qj]at i2;exact i2
 ·rw[hw,hq]at i1;simp at i1
theorem Yl(gs:List SG)(n:Nat)(hn:gs.length=n):oQ gs (Array.replicate n false)=gs.zipIdx.map fun p=>(p.2,p.1):=by
 unfold oQ;rw[List.filter_eq_self];rintro⟨i,g⟩ hp;simp only[QP,Prod.mk.injEq,Prod.exists]at hp;obtain⟨x,j,h1,rfl,rfl⟩:=hp;rw[List.mem_zipIdx_iff_getElem?]at h1;have:=(Qw.1 h1).1;simp only[QN,Array.getElem?_replicate];rw[Qr (by omega)]
 rfl
theorem aet{Γs:Nat->ow}(hΓ:∀i,nQ P (Γs i))(hm:P.follows .mixedOrders=true){nt id:Nat}{ops:Array Oper}{gs:List SG}{un:List (Nat×Nat)}{Q:Exit->St->Prop}{S S':St}(hc:ops.toList.mapM (vw P hs ops)=some gs)(hd:∀o∈ops.toList,∀t,o.dst=some t->t<nt)
  (hu:Vn ops.toList gs=some un) (hr:Mo Γs S.N un gs {S with N:=S.N+gs.length}=some S') (h:Q .normal S'):V P nt (.region id ops true) Q S:=fun E hE hk a w L hrel=>by
 have hl:gs.length=ops.size:=by have:=vk hc;simpa using this
 refine wpIn_region_any hm ?_;unfold Vn at hu;simp only at hu;split at hu
 ·rename_i hchk;injection hu with hu
  rw[Qm]at hchk;obtain⟨hap,hback⟩:=hchk;unfold Mo at hr;split at hr
  ·cases hr
  ·rename_i S1 fs hrun;split at hr
   ·rename_i hall;injection hr with hr
    subst hr;have hfp:=Mn _ _ _ _ hrun;have hpd:=Yl gs ops.size hl;refine YJ (E:=E) (base:=S.N) hΓ hc (Xr hE hk hd) (fun a' w' L' h'=>⟨S1,L',h',h⟩) ops.size (Array.replicate ops.size false) {S with N:=S.N+gs.length} a _ L fs (by simp) ?_ ?_ ((hrel.room gs.length).drew _) (by simp[hl]) (by rw[hpd];exact hrun) ?_ (by rw[hpd];simp[hl])
    ·intro i o ho hli;exfalso;have:=(Q9.1 ho).1;simp only[QN,Array.getElem?_replicate]at hli;rw[Qr this]at hli;cases hli
    ·intro i o ho e he hb;have h1:=QH.1 hback (o,i) (by rw[List.mem_zipIdx_iff_getElem?];simpa using ho)
     have h2:=QH.1 h1 e (by simpa using he)
     rw[hb]at h2;simpa using h2
    ·rw[hpd];intro x y p q f e hxy hp hq hf he hanc
     have hget:∀(z:Nat) (r:Nat×SG),(gs.zipIdx.map fun p=>(p.2,p.1))[z]?=some r->r.1=z/\gs[z]?=some r.2:=by
      intro z r hz;simp only[QT,Qb,Prod.exists,List.getElem?_zipIdx,Prod.mk.injEq]at hz;obtain⟨u,v,⟨u',hu',rfl,rfl⟩,rfl⟩:=hz;exact⟨by simp,hu'⟩
     obtain⟨p1,p2⟩:=hget x p hp;obtain⟨q1,q2⟩:=hget y q hq;have fx:=hfp.2 x p.1 p.2 f hp hf;have fy:=hfp.2 y q.1 q.2 e hq he;have hy:y<ops.toList.length:=by have:=(Qw.1 q2).1;simp;omega
     rw[p1,q1]at hanc;have hmem:=SL hy hxy hanc;have ha:=QH.1 hap _ hmem;simp only[p2,q2]at ha;refine YB ⟨fx.1,fx.2.1⟩ ⟨fy.1,fy.2.1⟩ ha ?_
     cases htx:p.2.op.qu with
     |false=>
      obtain⟨r1,r2⟩:=fx.2.2 htx;unfold BV;rw[r1,r2];cases e.wr<;>simp
     |true=>
      cases hty:q.2.op.qu with
      |false=>
       obtain⟨r1,r2⟩:=fy.2.2 hty;unfold BV;rw[r1,r2];cases f.wr<;>simp
      |true=>
       have hin:(x,y)∈un:=by
        rw[<-hu,List.mem_filter];exact⟨hmem,by simp[p2,q2,htx,hty]⟩
       have:=QH.1 hall _ hin;simpa[hf,he]using this
   ·cases hr
 ·cases hu
end
end
end Go.TQ
end
