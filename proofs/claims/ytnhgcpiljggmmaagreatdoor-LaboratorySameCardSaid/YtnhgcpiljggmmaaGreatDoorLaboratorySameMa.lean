/-
  Texts made small by a program (see NOTES). Conditions: those that each theorem names.
-/
import Derived.Maps.AppendAt
import Derived.Below
import Derived.Orders
import Derived.Tactics
import Derived.Deep.MidRow
import Derived.RangeFuncLeaves
import Derived.Laws.Build
import Derived.WalkKit
import Derived.Lib.Bytes
import Derived.Laws.IdiomStrings
import Derived.Laws.Strings3
import Derived.Laws.Slices
import Derived.Laws.Tables
import Derived.Laws.MakeOwn
import Derived.Laws.Cover3
import Derived.Laws.StructEq
import Derived.Sort.LoopGhostIn
set_option linter.unusedVariables false
set_option linter.unusedSimpArgs false
set_option linter.unusedSectionVars false
set_option maxHeartbeats 2000000
namespace Go
theorem Qa : type_of% @Option.bind_some := @Option.bind_some
theorem Qb : type_of% @Option.map_eq_some_iff := @Option.map_eq_some_iff
theorem Qc : type_of% @Option.bind_eq_some_iff := @Option.bind_eq_some_iff
theorem Qd : type_of% @Option.bind_eq_bind := @Option.bind_eq_bind
theorem Qe : type_of% @Option.map_some := @Option.map_some
theorem Qf : type_of% @Option.some.injEq := @Option.some.injEq
theorem Qg : type_of% @decide_eq_true := @decide_eq_true
theorem Qh : type_of% @decide_eq_false := @decide_eq_false
theorem Qi : type_of% @decide_eq_true_eq := @decide_eq_true_eq
theorem Qj : type_of% @decide_eq_false_iff_not := @decide_eq_false_iff_not
theorem Qk : type_of% @cond_true := @cond_true
theorem Ql : type_of% @cond_false := @cond_false
theorem Qm : type_of% @Bool.and_eq_true := @Bool.and_eq_true
theorem Qn : type_of% @Bool.or_eq_true := @Bool.or_eq_true
theorem Qo : type_of% @Bool.not_true := @Bool.not_true
theorem Qp : type_of% @Bool.not_false := @Bool.not_false
theorem Qq : type_of% @Bool.false_eq_true := @Bool.false_eq_true
theorem Qr : type_of% @if_pos := @if_pos
theorem Qs : type_of% @if_neg := @if_neg
theorem Qt : type_of% @if_true := @if_true
theorem Qu : type_of% @if_false := @if_false
theorem Qv : type_of% @List.getElem?_eq_getElem := @List.getElem?_eq_getElem
theorem Qw : type_of% @List.getElem?_eq_some_iff := @List.getElem?_eq_some_iff
theorem Qx : type_of% @List.mem_cons_self := @List.mem_cons_self
theorem Qy : type_of% @List.mem_cons_of_mem := @List.mem_cons_of_mem
theorem Qz : type_of% @List.mem_append := @List.mem_append
theorem QA : type_of% @List.mem_cons := @List.mem_cons
theorem QB : type_of% @List.length_append := @List.length_append
theorem QC : type_of% @List.length_map := @List.length_map
theorem QD : type_of% @List.map_cons := @List.map_cons
theorem QE : type_of% @List.length_cons := @List.length_cons
theorem QF : type_of% @Nat.eq_of_beq_eq_true := @Nat.eq_of_beq_eq_true
theorem QG : type_of% @Nat.le_of_ble_eq_true := @Nat.le_of_ble_eq_true
theorem QH : type_of% @List.all_eq_true := @List.all_eq_true
theorem QI : type_of% @Nat.le_refl := @Nat.le_refl
theorem QJ : type_of% @Nat.lt_of_lt_of_le := @Nat.lt_of_lt_of_le
theorem QK : type_of% @Nat.le_trans := @Nat.le_trans
theorem QL : type_of% @List.append_assoc := @List.append_assoc
theorem QM : type_of% @List.drop_eq_getElem_cons := @List.drop_eq_getElem_cons
theorem QN : type_of% @Array.getD_eq_getD_getElem? := @Array.getD_eq_getD_getElem?
theorem QO : type_of% @List.map_nil := @List.map_nil
theorem QP : type_of% @List.mem_map := @List.mem_map
theorem QQ : type_of% @List.mem_flatMap := @List.mem_flatMap
theorem QR : type_of% @List.not_mem_nil := @List.not_mem_nil
theorem QS : type_of% @Nat.zero_le := @Nat.zero_le
theorem QT : type_of% @List.getElem?_map := @List.getElem?_map
theorem QU : type_of% @List.foldl_cons := @List.foldl_cons
theorem QV : type_of% @Int.toNat_natCast := @Int.toNat_natCast
theorem QW : type_of% @Bool.eq_iff_iff := @Bool.eq_iff_iff
theorem QX : type_of% @List.length_set := @List.length_set
theorem QY : type_of% @List.length_nil := @List.length_nil
theorem QZ : type_of% @List.getElem_mem := @List.getElem_mem
theorem Q0 : type_of% @List.mem_of_mem_take := @List.mem_of_mem_take
theorem Q1 : type_of% @List.mem_of_mem_drop := @List.mem_of_mem_drop
theorem Q2 : type_of% @Option.getD_some := @Option.getD_some
theorem Q3 : type_of% @List.pairwise_cons := @List.pairwise_cons
theorem Q4 : type_of% @List.mem_singleton := @List.mem_singleton
theorem Q5 : type_of% @List.length_singleton := @List.length_singleton
theorem Q6 : type_of% @List.take_succ_eq_append_getElem := @List.take_succ_eq_append_getElem
theorem Q7 : type_of% @List.mem_of_getElem? := @List.mem_of_getElem?
theorem Q8 : type_of% @Array.getElem?_eq_some_iff := @Array.getElem?_eq_some_iff
theorem Q9 : type_of% @List.take_length := @List.take_length
theorem Qq62 : type_of% @Nat.mul_le_mul_right := @Nat.mul_le_mul_right
theorem Qq63 : type_of% @Int.lt_irrefl := @Int.lt_irrefl
theorem Qq64 : type_of% @Option.map_none := @Option.map_none
theorem Qq65 : type_of% @List.drop_length := @List.drop_length
theorem Qq66 : type_of% @List.eq_nil_of_length_eq_zero := @List.eq_nil_of_length_eq_zero
theorem Qq67 : type_of% @List.getElem?_take := @List.getElem?_take
theorem Qq68 : type_of% @List.pairwise_append := @List.pairwise_append
theorem Qq69 : type_of% @List.all_cons := @List.all_cons
theorem Qq70 : type_of% @List.map_congr_left := @List.map_congr_left
theorem Qq71 : type_of% @List.getElem?_eq_none := @List.getElem?_eq_none
theorem Qq72 : type_of% @Nat.add_mul := @Nat.add_mul
theorem Qq73 : type_of% @Bool.or_eq_false_iff := @Bool.or_eq_false_iff
theorem Qq74 : type_of% @List.mapM_cons := @List.mapM_cons
end Go
noncomputable section
namespace Go.TQ
section
inductive PV where
 |any
 |undef
 |int (k:IntKind) (n:Int)
 |bool (b:Bool)
 |fB
 |str (s:ByteArray)
 |jj
 |dx
 |cz (f:FuncId) (caps:List PV)
 |iM (f:FuncId) (first:List PV)
 |agg (cs:List PV)
 |cX (cs:List PV)
 |ptr (id ar off:Nat)
 |ref (cs:List PV)
 |sl (es:List (List PV))
 |own (id ar:Nat)
 |ed (id ar k i off:Nat)
 |view (id ar k lo n:Nat)
 |iu (ks vs:List PV)
 |iJ (b:Bool)
 |gA (T:TypeId) (x:PV)
def PV.plain:PV->Bool
 | .int ..| .bool _| .fB| .str _| .jj| .dx| .any| .undef| .iJ _| .gA ..=>true
 |_=>false
structure Gh where
 N:Nat
 L:Nat->Value
 V:Nat->Nat
def dm:Gh:=⟨0,fun _=> .bool false,fun _=>0⟩
def dS:Value->Option Nat
 | .pointer (some a)=>some a.block
 | .slice (some a) _ _=>some a.block
 |_=>none
def O6(l:Value)(k lo n:Nat)(a:Option Addr)(c:Nat):Prop:=
 ∃a0 m c0,l= .slice a0 m c0/\lo+n<=m/\m<=c0/\c=c0 - lo/\((n=0/\lo≠0/\(a=none->a0=none))\/a=a0.map (·.add (lo*k)))
inductive aW (w:World) (M:Nat->Prop):Gh->PV->Value->Prop where
 |any {G:Gh} (v:Value):aW w M G .any v
 |undef {G:Gh}:aW w M G .undef Go.undef
 |int {G:Gh} (k:IntKind) (n:Int):aW w M G (.int k n) (.int k n)
 |bool {G:Gh} (b:Bool):aW w M G (.bool b) (.bool b)
 |fB {G:Gh} (b:Bool):aW w M G .fB (.bool b)
 |str {G:Gh} (s:ByteArray):aW w M G (.str s) (.string s)
 |jj {G:Gh}:aW w M G .jj (.pointer none)
 |dx {G:Gh}:aW w M G .dx (.slice none 0 0)
 |cz {G:Gh} (f:FuncId) (caps:List PV) (vs:List Value) (hl:vs.length=caps.length) (h:∀(i:Nat) (x:PV) (v:Value),caps[i]?=some x->vs[i]?=some v->aW w M G x v):aW w M G (.cz f caps) (.func (.func f) #[] vs.toArray)
 |iM {G:Gh} (f:FuncId) (cs:List PV) (vs:List Value) (hl:vs.length=cs.length) (h:∀(i:Nat) (x:PV) (v:Value),cs[i]?=some x->vs[i]?=some v->aW w M G x v):aW w M G (.iM f cs) (.func (.func f) vs.toArray #[])
 |agg {G:Gh} (cs:List PV) (vs:List Value) (hl:vs.length=cs.length) (h:∀(i:Nat) (x:PV) (v:Value),cs[i]?=some x->vs[i]?=some v->aW w M G x v):aW w M G (.agg cs) (.agg vs.toArray)
 |cX {G:Gh} (cs:List PV) (vs:List Value) (hl:vs.length=cs.length) (h:∀(i:Nat) (x:PV) (v:Value),cs[i]?=some x->vs[i]?=some v->aW w M G x v):aW w M G (.cX cs) (.tuple vs.toArray)
 |ptr {G:Gh} (id ar off:Nat) (a:Option Addr) (hN:id<G.N) (hV:ar<=G.V id) (h:ar=G.V id->a=(dS (G.L id)).map fun b=>⟨b,off,none⟩):aW w M G (.ptr id ar off) (.pointer a)
 |ref {G:Gh} (cs:List PV) (a:Addr) (vs:List Value) (hl:vs.length=cs.length) (hc:∀(i:Nat) (v:Value),vs[i]?=some v->w.cell? (a.add i)=some v/\¬M a.block)
   (h:∀(i:Nat) (x:PV) (v:Value),cs[i]?=some x->vs[i]?=some v->aW w M dm x v):aW w M G (.ref cs) (.pointer (some a))
 |sl {G:Gh} (es:List (List PV)) (a:Addr) (c k:Nat) (vs:List Value) (hk:∀e∈es,e.length=k) (hl:vs.length=es.flatten.length) (hc:∀(i:Nat) (v:Value),vs[i]?=some v->w.cell? (a.add i)=some v/\¬M a.block)
   (h:∀(i:Nat) (x:PV) (v:Value),es.flatten[i]?=some x->vs[i]?=some v->aW w M dm x v) (hn:es.length<=c) (hm:c<=maxLen):aW w M G (.sl es) (.slice (some a) es.length c)
 |slnil {G:Gh}:aW w M G (.sl []) (.slice none 0 0)
 |own {G:Gh} (id ar:Nat) (a:Option Addr) (n c:Nat) (hN:id<G.N) (hV:ar<=G.V id) (h:ar=G.V id-> .slice a n c=G.L id):aW w M G (.own id ar) (.slice a n c)
 |ed {G:Gh} (id ar k i off:Nat) (a:Option Addr) (hN:id<G.N) (hV:ar<=G.V id) (h:ar=G.V id->a=(dS (G.L id)).map fun b=>⟨b,i*k+off,none⟩):aW w M G (.ed id ar k i off) (.pointer a)
 |view {G:Gh} (id ar k lo n:Nat) (a:Option Addr) (c:Nat) (hN:id<G.N) (hV:ar<=G.V id) (h:ar=G.V id->O6 (G.L id) k lo n a c):aW w M G (.view id ar k lo n) (.slice a n c)
 |iu {G:Gh} (ks vs:List PV) (b:Nat) (es:Array MapEntry) (ck:Nat) (hb:w.heap[b]?=some (.map es ck)) (hM:¬M b) (hk:es.size=ks.length) (hv:es.size=vs.length)
   (h1:∀(i:Nat) (x:PV) (e:MapEntry),ks[i]?=some x->es[i]?=some e->aW w M dm x e.key) (h2:∀(i:Nat) (x:PV) (e:MapEntry),vs[i]?=some x->es[i]?=some e->aW w M dm x e.val):aW w M G (.iu ks vs) (.map (some b))
 |sf {G:Gh}:aW w M G (.iJ true) .nilIface
 |si {G:Gh} (T:TypeId) (v:Value):aW w M G (.iJ false) (.iface T v)
 |gA {G:Gh} (T:TypeId) (x:PV) (v:Value) (hp:x.plain=true) (h:aW w M dm x v):aW w M G (.gA T x) (.iface T v)
def aR(w:World)(M:Nat->Prop)(G:Gh)(cs:List PV)(vs:List Value):Prop:=
 vs.length=cs.length/\∀(i:Nat) (x:PV) (v:Value),cs[i]?=some x->vs[i]?=some v->aW w M G x v
structure Gh.le (G G':Gh):Prop where
 N:G.N<=G'.N
 at_:∀id,id<G.N->(G.V id=G'.V id/\G.L id=G'.L id)\/G.V id<G'.V id
theorem Gh.le.refl(G:Gh):G.le G:=⟨QI _,fun _ _=> .inl ⟨rfl,rfl⟩⟩
structure dj (w w':World) (M M':Nat->Prop):Prop where
 c:∀(a:Addr) (v:Value),w.cell? a=some v->¬M a.block->w'.cell? a=some v/\¬M' a.block
 m:∀(b:Nat) (es:Array MapEntry) (ck:Nat),w.heap[b]?=some (.map es ck)->¬M b->w'.heap[b]?=some (.map es ck)/\¬M' b
theorem dj.of{w:World}{M M':Nat->Prop}(h:∀b,¬M b->¬M' b):dj w w M M':=⟨fun _ _ hp hm=>⟨hp,h _ hm⟩,fun _ _ _ hb hm=>⟨hb,h _ hm⟩⟩
theorem aW.adp{w w':World}{M M':Nat->Prop}{G:Gh}(hs:dj w w' M M'){x:PV}{v:Value}(h:aW w M G x v):∀G',G.le G'->aW w' M' G' x v:=by
 induction h with
 |any v=>exact fun _ _=> .any v
 |undef=>exact fun _ _=> .undef
 |int k n=>exact fun _ _=> .int k n
 |bool b=>exact fun _ _=> .bool b
 |fB b=>exact fun _ _=> .fB b
 |str s=>exact fun _ _=> .str s
 |jj=>exact fun _ _=> .jj
 |dx=>exact fun _ _=> .dx
 |cz f caps vs hl _ ih=>exact fun G' hg=> .cz f caps vs hl fun i x v hx hv=>ih i x v hx hv G' hg
 |iM f cs vs hl _ ih=>exact fun G' hg=> .iM f cs vs hl fun i x v hx hv=>ih i x v hx hv G' hg
 |agg cs vs hl _ ih=>exact fun G' hg=> .agg cs vs hl fun i x v hx hv=>ih i x v hx hv G' hg
 |cX cs vs hl _ ih=>exact fun G' hg=> .cX cs vs hl fun i x v hx hv=>ih i x v hx hv G' hg
 |ptr id ar off a hN hV h=>
  intro G' hg;refine .ptr id ar off a (QJ hN hg.N) ?_ ?_
  ·rcases hg.at_ id hN with⟨e,_⟩|e<;>omega
  ·intro e;rcases hg.at_ id hN with⟨e1,e2⟩|e1
   ·rw[<-e2];exact h (by omega)
   ·omega
 |ref cs a vs hl hc _ ih=>
  intro G' _
  exact .ref cs a vs hl (fun i v hv=>by
   obtain⟨h1,h2⟩:=hc i v hv;have hb:(a.add i).block=a.block:=by unfold Addr.add;split<;>rfl
   have:=hs.c _ _ h1 (by rw[hb];exact h2)
   rw[hb]at this
   exact this) fun i x v hx hv=>ih i x v hx hv dm (Gh.le.refl _)
 |sl es a c k vs hk hl hc _ hn hm ih=>
  intro G' _
  exact .sl es a c k vs hk hl (fun i v hv=>by
   obtain⟨h1,h2⟩:=hc i v hv;have hb:(a.add i).block=a.block:=by unfold Addr.add;split<;>rfl
   have:=hs.c _ _ h1 (by rw[hb];exact h2)
   rw[hb]at this
   exact this) (fun i x v hx hv=>ih i x v hx hv dm (Gh.le.refl _)) hn hm
 |slnil=>exact fun _ _=> .slnil
 |own id ar a n c hN hV h=>
  intro G' hg;refine .own id ar a n c (QJ hN hg.N) ?_ ?_
  ·rcases hg.at_ id hN with⟨e,_⟩|e<;>omega
  ·intro e;rcases hg.at_ id hN with⟨e1,e2⟩|e1
   ·rw[<-e2];exact h (by omega)
   ·omega
 |ed id ar k i off a hN hV h=>
  intro G' hg;refine .ed id ar k i off a (QJ hN hg.N) ?_ ?_
  ·rcases hg.at_ id hN with⟨e,_⟩|e<;>omega
  ·intro e;rcases hg.at_ id hN with⟨e1,e2⟩|e1
   ·rw[<-e2];exact h (by omega)
   ·omega
 |view id ar k lo n a c hN hV h=>
  intro G' hg;refine .view id ar k lo n a c (QJ hN hg.N) ?_ ?_
  ·rcases hg.at_ id hN with⟨e,_⟩|e<;>omega
  ·intro e;rcases hg.at_ id hN with⟨e1,e2⟩|e1
   ·rw[<-e2];exact h (by omega)
   ·omega
 |iu ks vs b es ck hb hM hk hv _ _ ih1 ih2=>
  intro G' _;exact .iu ks vs b es ck (hs.m _ _ _ hb hM).1 (hs.m _ _ _ hb hM).2 hk hv (fun i x e hx he=>ih1 i x e hx he dm (Gh.le.refl _)) fun i x e hx he=>ih2 i x e hx he dm (Gh.le.refl _)
 |sf=>exact fun _ _=> .sf
 |si T v=>exact fun _ _=> .si T v
 |gA T x v hp _ ih=>exact fun _ _=> .gA T x v hp (ih dm (Gh.le.refl _))
theorem aW.mono{w w':World}{M M':Nat->Prop}{G G':Gh}(hs:dj w w' M M')(hg:G.le G'){x:PV}{v:Value}(h:aW w M G x v):aW w' M' G' x v:=h.adp hs G' hg
theorem dm.le(G:Gh):dm.le G:=⟨QS _,fun _ h=>absurd h (Nat.not_lt_zero _)⟩
theorem aR.mono{w w':World}{M M':Nat->Prop}{G G':Gh}(hs:dj w w' M M')(hg:G.le G'){cs:List PV}{vs:List Value}(h:aR w M G cs vs):aR w' M' G' cs vs:=
 ⟨h.1,fun i x v hx hv=>(h.2 i x v hx hv).mono hs hg⟩
section
variable {w : World} {M : Nat -> Prop} {G : Gh}
theorem aR.nil:aR w M G [] []:=⟨rfl,fun i x v h _=>by simp at h⟩
theorem aR.cons{x:PV}{v:Value}{cs:List PV}{vs:List Value}(h:aW w M G x v)(t:aR w M G cs vs):aR w M G (x::cs) (v::vs):=by
 refine⟨by simp[t.1],fun i y u hy hu=> ?_⟩
 cases i with
 |zero=>simp at hy hu;subst hy hu;exact h
 |succ i=>simp at hy hu;exact t.2 i y u hy hu
theorem aR.cons_inv{x:PV}{cs:List PV}{vs:List Value}(h:aR w M G (x::cs) vs):∃v vs',vs=v::vs'/\aW w M G x v/\aR w M G cs vs':=by
 obtain⟨hl,h⟩:=h
 cases vs with
 |nil=>simp at hl
 |cons v vs=>exact⟨v,vs,rfl,h 0 x v (by simp) (by simp),by simpa using hl,fun i y u hy hu=>h (i+1) y u (by simpa using hy) (by simpa using hu)⟩
theorem aR.tQ{vs:List Value}(h:aR w M G [] vs):vs=[]:=Qq66 h.1
theorem aR.append{cs ds:List PV}{vs us:List Value}(h:aR w M G cs vs)(k:aR w M G ds us):aR w M G (cs++ds) (vs++us):=by
 refine⟨by simp[h.1,k.1],fun i x v hx hv=> ?_⟩
 by_cases hi:i<cs.length
 ·rw[List.getElem?_append_left hi]at hx;rw[List.getElem?_append_left (by rw[h.1];exact hi)]at hv
  exact h.2 i x v hx hv
 ·rw[List.getElem?_append_right (by omega)]at hx
  rw[List.getElem?_append_right (by rw[h.1];omega),h.1]at hv
  exact k.2 _ x v hx hv
theorem aR.take{cs:List PV}{vs:List Value}(h:aR w M G cs vs)(n:Nat):aR w M G (cs.take n) (vs.take n):=by
 refine⟨by simp[h.1],fun i x v hx hv=> ?_⟩
 rw[Qq67]at hx hv;split at hx
 ·rename_i hi;rw[Qr hi]at hv;exact h.2 i x v hx hv
 ·cases hx
theorem aR.drop{cs:List PV}{vs:List Value}(h:aR w M G cs vs)(n:Nat):aR w M G (cs.drop n) (vs.drop n):=by
 refine⟨by simp[h.1],fun i x v hx hv=> ?_⟩
 rw[List.getElem?_drop]at hx hv;exact h.2 _ x v hx hv
theorem aR.get{cs:List PV}{vs:List Value}(h:aR w M G cs vs){i:Nat}{x:PV}(hx:cs[i]?=some x):∃v,vs[i]?=some v/\aW w M G x v:=by
 have hi:i<vs.length:=by rw[h.1];exact(Qw.1 hx).1
 exact⟨vs[i],Qv hi,h.2 i x _ hx (Qv hi)⟩
def PV.one:PV->Bool
 | .int ..| .bool _| .fB| .str _| .jj| .dx| .cz ..| .iM ..| .ptr ..| .ed ..| .ref _| .sl _| .own ..| .view ..| .iu ..| .iJ _| .gA ..=>true
 |_=>false
def PV.cells:PV->List PV
 | .agg cs=>cs
 |x=>[x]
theorem aW.one{x:PV}{v:Value}(h:aW w M G x v)(h1:x.one=true):v.oneCell'=true/\v.cells=#[v]:=by
 cases h<;>simp[PV.one]at h1<;>exact⟨rfl,rfl⟩
theorem aW.cells{x:PV}{v:Value}(h:aW w M G x v)(h1:∀y∈x.cells,y.one=true):aR w M G x.cells v.cells.toList/\∀u∈v.cells.toList,u.oneCell'=true:=by
 have go:∀{cs:List PV} {vs:List Value},aR w M G cs vs->(∀y∈cs,y.one=true)->∀u∈vs,u.oneCell'=true:=by
  intro cs vs hr h1 u hu;obtain⟨i,hi,rfl⟩:=List.mem_iff_getElem.1 hu;have hx:i<cs.length:=by rw[<-hr.1];exact hi
  exact((hr.2 i cs[i] vs[i] (Qv hx) (Qv hi)).one (h1 _ (QZ hx))).1
 cases hx:x with
 |agg cs=>
  subst hx
  cases h with
  |agg _ vs hl h=>
   have hr:aR w M G cs vs:=⟨hl,h⟩;exact⟨by simpa[PV.cells,Value.cells]using hr,by simpa[Value.cells]using go hr (by simpa[PV.cells]using h1)⟩
 |_=>
  have hc:x.cells=[x]:=by rw[hx];rfl
  rw[<-hx];rw[hc]at h1;obtain⟨h2,h3⟩:=h.one (h1 x (by simp))
  rw[hc,h3];exact⟨.cons h .nil,by simpa using h2⟩
end
end
section
open Go.RowKit
inductive vx where
 |dead
 |box (cs:List PV)
 |row (e:TypeId) (k:Nat) (es:List (List PV))
structure fc where
 ar:Nat
 c:vx
def vx.live:vx->Bool
 | .dead=>false
 |_=>true
structure St where
 env:Nat->PV
 H:Nat->fc
 N:Nat
def bS{α:Type}(f:Nat->α)(i:Nat)(x:α):Nat->α:=fun j=>if j=i then x else f j
theorem ca{α:Type}(f:Nat->α)(i:Nat)(x:α):bS f i x i=x:=by simp[bS]
theorem cu{α:Type}(f:Nat->α){i j:Nat}(x:α)(h:j≠i):bS f i x j=f j:=by simp[bS,h]
def isC:Obj->Bool
 | .cells ..=>true
 |_=>false
structure EF (w w':World):Prop where
 size:w.heap.size<=w'.heap.size
 same:∀(k:Nat) (o:Obj),w.heap[k]?=some o->isC o=false->w'.heap[k]?=some o
theorem EF.refl(w:World):EF w w:=⟨QI _,fun _ _ h _=>h⟩
theorem EF.trans{a b c:World}(h:EF a b)(k:EF b c):EF a c:=⟨QK h.size k.size,fun i o hi ho=>k.same i o (h.same i o hi ho) ho⟩
def WF(rd:Option Nat):Fence:={Fence.wide with round:=rd}
theorem uK{rd:Option Nat}{n:Nat}{P:Program}{f:FuncId}{args:Array Value}{w:World}{R:Ending->World->Prop}:CallsIn (WF rd) n P f args w R↔Calls P f args w R:=
 (show CallsIn (WF rd) n P f args w R↔CallsIn Fence.wide n P f args w R from Iff.rfl).trans callsIn_wide
def xO:List (Nat×(Obj->Prop)):=[(0,fun o=>∃v T fr,o= .cells #[v] T fr/\∃m:Int,v= .int .i64 m),(1,fun o=>∃v T fr,o= .cells #[v] T fr/\∃tp p,v= .iface tp p),(2,fun o=>∃v T fr,o= .cells #[v] T fr/\∃tp p,v= .iface tp p),(5,fun o=>∃T fr,o= .cells (((List.range 20).map fun i=>Value.int .u64 ((10 ^ i:Nat):Int)).toArray) T fr)]
def gb(b:Nat):Prop:=∃q∈xO,q.1=b
def GI(w:World):Prop:=∀q∈xO,∃o,w.heap[q.1]?=some o/\q.2 o
structure qR (w:World) (X:Nat->Prop):Prop where
 lt:∀b,X b->b<w.heap.size
 ng:∀b,X b->¬gb b
 gi:GI w
theorem GI.lt{w:World}(h:GI w){b:Nat}(hb:gb b):b<w.heap.size:=by
 obtain⟨q,hq,rfl⟩:=hb;obtain⟨o,ho,_⟩:=h q hq;exact(Q8.1 ho).1
theorem GI.gP{w w':World}(h:GI w)(hb:∀b,gb b->w'.heap[b]?=w.heap[b]?):GI w':=fun q hq=>by
 obtain⟨o,ho,hp⟩:=h q hq;exact⟨o,(hb _ ⟨q,hq,rfl⟩).trans ho,hp⟩
theorem qR.nil{w:World}(h:GI w):qR w fun _=>False:=⟨fun _ hb=>hb.elim,fun _ hb=>hb.elim,h⟩
structure En where
 w0:World
 rb:Option Nat
 nt:Nat
 rd:Option Nat
 nd:Bool
 kt:Nat->Option Value
 wk:World
 X:Nat->Prop
 hX:qR w0 X
 XJ:Bool
 rv:Value
 rk:Bool
 K8:∀b,rb=some b->b<w0.heap.size/\¬gb b
 YE:rk=true->∀b,rb=some b->¬X b
def gd(E:En)(v:Value):Nat:=if E.rk=true/\E.rb≠none/\dS v=E.rb then 0 else E.w0.heap.size
theorem xn{E:En}{v v':Value}(h:dS v=dS v'):gd E v=gd E v':=by simp[gd,h]
theorem HK(E:En)(v:Value):gd E v<=E.w0.heap.size:=by unfold gd;split<;>omega
theorem FY{E:En}{v:Value}{g:Nat}(h:dS v=some g)(hg:E.w0.heap.size<=g):gd E v=E.w0.heap.size:=by
 unfold gd;rw[Qs];rintro⟨_,_,h1⟩;rw[h]at h1;have:=(E.K8 g h1.symm).1;omega
theorem BN{E:En}{v:Value}{g:Nat}(h:dS v=some g)(hb:gd E v<=g):(E.rk=true/\E.rb=some g)\/E.w0.heap.size<=g:=by
 unfold gd at hb;split at hb
 ·rename_i hc;exact .inl ⟨hc.1,by rw[<-hc.2.2,h]⟩
 ·exact .inr hb
def mm:Bool:=false
def DL(w w':World):Prop:=mm=true->w.drawn<=w'.drawn
theorem DL.refl(w:World):DL w w:=fun _=>QI _
theorem DL.of{w w':World}(h:w.drawn<=w'.drawn):DL w w':=fun _=>h
theorem DL.trans{a b c:World}(h:DL a b)(k:DL b c):DL a c:=fun e=>QK (h e) (k e)
structure Fr (rb:Option Nat) (w0 w:World):Prop where
 os:w.os=w0.os
 tape:w.tape=w0.tape
 output:w.output=w0.output
 size:w0.heap.size<=w.heap.size
 block:∀b,b<w0.heap.size->rb≠some b->w.heap[b]?=w0.heap[b]?
 drawn:DL w0 w
theorem Fr.refl(rb:Option Nat)(w:World):Fr rb w w:=⟨rfl,rfl,rfl,QI _,fun _ _ _=>rfl,DL.refl _⟩
def bp(E:En)(S:St)(L:Nat->Value)(b:Nat):Prop:=(∃id,id<S.N/\(S.H id).c.live=true/\dS (L id)=some b)\/E.X b
def St.gh(S:St)(L:Nat->Value):Gh:=⟨S.N,L,fun id=>(S.H id).ar⟩
def uS(E:En)(w:World)(M:Nat->Prop)(G:Gh)(v:Value):vx->Prop
 | .dead=>True
 | .box cs=>∃(b:Nat) (cur:Array Value) (T:TypeId),v= .pointer (some ⟨b,0,none⟩)/\w.heap[b]?=some (.cells cur T (0,0))/\(E.rb=some b\/E.w0.heap.size<=b)/\aR w M G cs cur.toList
 | .row e k es=>∃(vs:List Value),w.ownsRow (gd E v) e k v es.length vs/\(∀x∈es,x.length=k)/\aR w M G es.flatten vs
def En.can(E:En)(d:Nat):Prop:=d<E.nt/\E.kt d=none
structure Marks (E:En) (a:Act) (w:World):Prop where
 none:E.nd=true->a.defers=[]
 nodup:a.defers.Nodup
 at_:∀d∈a.defers,∃D,d={target:= .collected D,args:=#[]}/\E.w0.heap.size<=D/\w.heap[D]?=some (.deferred (some []))
theorem Marks.nil{E:En}{a:Act}{w:World}(h:a.defers=[]):Marks E a w:=⟨fun _=>h,by rw[h];exact List.nodup_nil,fun d hd=>by rw[h]at hd;cases hd⟩
structure FrE (E:En) (w:World):Prop extends Fr E.rb E.w0 w where
 ko:EF E.wk w
structure Rel (E:En) (S:St) (a:Act) (w:World) (L:Nat->Value):Prop where
 defers:Marks E a w
 size:a.tmps.size=E.nt/\∀t v,E.kt t=some v->a.tmps.getD t undef=v
 env:∀t,aW w (bp E S L) (S.gh L) (S.env t) (a.tmps.getD t undef)
 obj:∀id,id<S.N->uS E w (bp E S L) (S.gh L) (L id) (S.H id).c
 apart:∀i j b,i<S.N->j<S.N->(S.H i).c.live=true->(S.H j).c.live=true->dS (L i)=some b->dS (L j)=some b->i=j
 fresh:∀id,S.N<=id->S.H id=⟨0,.dead⟩
 fr:FrE E w
 AV:E.XJ=true->(S.H 0).c.live=true->(S.H 0).ar=0->L 0=E.rv
theorem qP(a:Addr)(i:Nat):(a.add i).block=a.block:=by unfold Addr.add;split<;>rfl
theorem R6{w:World}{a:Addr}{v:Value}(h:w.cell? a=some v):a.block<w.heap.size:=World.block_lt_of_cell? w a h
theorem uS.mono{E:En}{w w':World}{M M':Nat->Prop}{G G':Gh}{v:Value}{c:vx}(hs:dj w w' M M')(hg:G.le G')
  (hb:∀b,dS v=some b->b<w.heap.size->w'.heap[b]?=w.heap[b]?) (h:uS E w M G v c):uS E w' M' G' v c:=by
 cases c with
 |dead=>trivial
 |box cs=>
  obtain⟨b,cur,T,rfl,hh,hE,hr⟩:=h;exact⟨b,cur,T,rfl,(hb b rfl (Q8.1 hh).1).trans hh,hE,hr.mono hs hg⟩
 |row e k cs=>
  obtain⟨vs,ho,hk,hr⟩:=h;refine⟨vs,⟨ho.1,?_⟩,hk,hr.mono hs hg⟩;rcases ho.2 with hn|⟨g,cap,cur,rfl,hb1,hh,rest⟩
  ·exact .inl hn
  ·exact .inr ⟨g,cap,cur,rfl,hb1,(hb g rfl (Q8.1 hh).1).trans hh,rest⟩
theorem uS.uM{E:En}{w:World}{M:Nat->Prop}{G:Gh}{v:Value}{c:vx}(h:uS E w M G v c)(hl:c.live=true){b:Nat}(hb:dS v=some b):
  b<w.heap.size/\(E.rb=some b\/E.w0.heap.size<=b):=by
 cases c with
 |dead=>cases hl
 |box cs=>
  obtain⟨b',cur,T,rfl,hh,hE,_⟩:=h;simp only[dS,Qf]at hb;subst hb;exact⟨(Q8.1 hh).1,hE⟩
 |row e k cs=>
  obtain⟨vs,ho,_⟩:=h;rcases ho.2 with⟨rfl,_⟩|⟨g,cap,cur,rfl,hb1,hh,rest⟩
  ·simp[dS]at hb
  ·simp only[dS,Qf]at hb;subst hb;exact⟨(Q8.1 hh).1,(BN rfl hb1).imp (·.2) id⟩
section
variable {E : En} {S : St} {a : Act} {w : World} {L : Nat -> Value}
theorem Marks.oth{w':World}(h:Marks E a w)(ho:EF w w'):Marks E a w':=⟨h.none,h.nodup,fun d hd=>by
 obtain⟨D,h1,h2,h3⟩:=h.at_ d hd
 exact⟨D,h1,h2,ho.same D _ h3 rfl⟩⟩
theorem uS.cells{M:Nat->Prop}{G:Gh}{v:Value}{c:vx}(h:uS E w M G v c)(hl:c.live=true){b:Nat}(hb:dS v=some b):∃o,w.heap[b]?=some o/\isC o=true:=by
 cases c with
 |dead=>cases hl
 |box cs=>
  obtain⟨b',cur,T,rfl,hh,hE,_⟩:=h;simp only[dS,Qf]at hb;subst hb;exact⟨_,hh,rfl⟩
 |row e k cs=>
  obtain⟨vs,ho,_⟩:=h;rcases ho.2 with⟨rfl,_⟩|⟨g,cap,cur,rfl,hb1,hh,rest⟩
  ·simp[dS]at hb
  ·simp only[dS,Qf]at hb;subst hb;exact⟨_,hh,rfl⟩
theorem Xf{a:Act}{d t:Nat}{v:Value}(h:t≠d):(a.put (some d) v).tmps.getD t undef=a.tmps.getD t undef:=by
 simp only[Act.put,QN];rw[Array.getElem?_setIfInBounds_ne (fun e=>h e.symm)]
theorem Rel.put(h:Rel E S a w L){d:Nat}{x:PV}{v:Value}(hd:E.can d)(hx:aW w (bp E S L) (S.gh L) x v):
  Rel E {S with env:=bS S.env d x} (a.put (some d) v) w L:=by
 refine⟨⟨h.defers.none,h.defers.nodup,h.defers.at_⟩,⟨by simp[Act.put,h.size.1],fun t u hu=> ?_⟩,fun t=> ?_,h.obj,h.apart,h.fresh,h.fr,h.AV⟩
 ·rw[Xf (fun e=>by subst e;rw[hd.2]at hu;cases hu)]
  exact h.size.2 t u hu
 show aW w (bp E S L) (S.gh L) (bS S.env d x t) _
 by_cases ht:t=d
 ·subst ht;have:(a.put (some t) v).tmps.getD t undef=v:=by simp[Act.put,QN,Array.getElem?_setIfInBounds_self_of_lt (show t<a.tmps.size by rw[h.size.1];exact hd.1)]
  rw[this,ca];exact hx
 ·have:(a.put (some d) v).tmps.getD t undef=a.tmps.getD t undef:=by
   simp only[Act.put,QN];rw[Array.getElem?_setIfInBounds_ne (fun e=>ht e.symm)]
  rw[this,cu _ _ ht];exact h.env t
theorem Rel.grow(h:Rel E S a w L){w':World}(hos:w'.os=w.os)(htape:w'.tape=w.tape)(hout:w'.output=w.output)(hsz:w.heap.size<=w'.heap.size)
  (hb:∀b,b<w.heap.size->w'.heap[b]?=w.heap[b]?) (hdr:DL w w':=by first|exact DL.refl _|exact DL.of (QI _)|exact DL.of (by first|(simp;done)|omega)):Rel E S a w' L/\dj w w' (bp E S L) (bp E S L):=by
 have hs:dj w w' (bp E S L) (bp E S L):=⟨fun p v hp hm=>⟨(World.cell?_of_block (hb _ (R6 hp))).trans hp,hm⟩,fun k _ _ hk hm=>⟨(hb k (Q8.1 hk).1).trans hk,hm⟩⟩
 have ho:EF w w':=⟨hsz,fun k o hk _=>(hb k (Q8.1 hk).1).trans hk⟩
 refine⟨⟨h.defers.oth ho,h.size,fun t=>(h.env t).mono hs (Gh.le.refl _),fun id hid=>(h.obj id hid).mono hs (Gh.le.refl _) (fun b _ hlt=>hb b hlt),h.apart,h.fresh,
  ⟨⟨hos.trans h.fr.os,htape.trans h.fr.tape,hout.trans h.fr.output,QK h.fr.size hsz,fun b h1 h2=>(hb b (QJ h1 h.fr.size)).trans (h.fr.block b h1 h2),h.fr.drawn.trans hdr⟩,h.fr.ko.trans ho⟩,h.AV⟩,hs⟩
theorem Rel.og(h:Rel E S a w L){w':World}{id:Nat}(hid:id<S.N)(o:fc)(l:Value)
  (hv:(o.ar=(S.H id).ar/\l=L id/\(S.H id).c.live=true)\/(S.H id).ar<o.ar)
  (hos:w'.os=w.os) (htape:w'.tape=w.tape) (hout:w'.output=w.output) (hsz:w.heap.size<=w'.heap.size)
  (hb:∀b,b<w.heap.size->((S.H id).c.live=true->dS (L id)≠some b)->w'.heap[b]?=w.heap[b]?)
  (hl:∀b,o.c.live=true->dS l=some b->((S.H id).c.live=true/\dS (L id)=some b)\/w.heap.size<=b)
  (hnew:dj w w' (bp E S L) (bp E {S with H:=bS S.H id o} (bS L id l))->(S.gh L).le (St.gh {S with H:=bS S.H id o} (bS L id l))->
   uS E w' (bp E {S with H:=bS S.H id o} (bS L id l)) (St.gh {S with H:=bS S.H id o} (bS L id l)) l o.c)
  (hdr:DL w w':=by first|exact DL.refl _|exact DL.of (QI _)|exact DL.of (by first|(simp;done)|omega)):
  Rel E {S with H:=bS S.H id o} a w' (bS L id l)/\dj w w' (bp E S L) (bp E {S with H:=bS S.H id o} (bS L id l))/\(S.gh L).le (St.gh {S with H:=bS S.H id o} (bS L id l)):=by
 have hg:(S.gh L).le (St.gh {S with H:=bS S.H id o} (bS L id l)):=by
  refine⟨QI _,fun j hj=> ?_⟩
  by_cases hji:j=id
  ·subst hji;rcases hv with⟨e1,e2,_⟩|e
   ·exact .inl ⟨by simp[St.gh,ca,e1],by simp[St.gh,ca,e2]⟩
   ·exact .inr (by simpa[St.gh,ca]using e)
  ·exact .inl ⟨by simp[St.gh,cu _ _ hji],by simp[St.gh,cu _ _ hji]⟩
 have hm:∀b,b<w.heap.size->bp E {S with H:=bS S.H id o} (bS L id l) b->bp E S L b:=by
  rintro b hlt (⟨j,hj,hlive,hblk⟩|hX)
  case inr=>exact .inr hX
  simp only at hj hlive
  by_cases hji:j=id
  ·subst hji;rw[ca]at hlive hblk;rcases hl b hlive hblk with⟨h1,h2⟩|h1
   ·exact .inl ⟨j,hj,h1,h2⟩
   ·omega
  ·rw[cu _ _ hji]at hlive hblk;exact .inl ⟨j,hj,hlive,hblk⟩
 have ho:EF w w':=⟨hsz,fun k o hk hc=>(hb k (Q8.1 hk).1 (fun h1 h2=>by
  obtain⟨o',h3,h4⟩:=(h.obj id hid).cells h1 h2;rw[hk]at h3;injection h3 with h3
  rw[h3,h4]at hc
  cases hc)).trans hk⟩
 have hs:dj w w' (bp E S L) (bp E {S with H:=bS S.H id o} (bS L id l)):=by
  refine⟨fun p v hp hnm=> ?_,fun k _ _ hk hnm=>⟨ho.same k _ hk rfl,fun hm'=>hnm (hm _ (Q8.1 hk).1 hm')⟩⟩
  have hlt:=R6 hp;exact⟨(World.cell?_of_block (hb _ hlt (fun h1 h2=>hnm (.inl ⟨id,hid,h1,h2⟩)))).trans hp,fun hm'=>hnm (hm _ hlt hm')⟩
 refine⟨⟨h.defers.oth ho,h.size,fun t=>(h.env t).mono hs hg,fun j hj=> ?_,?_,fun j hj=> ?_,?_,?_⟩,hs,hg⟩
 ·simp only at hj ⊢
  by_cases hji:j=id
  ·subst hji;rw[ca,ca];exact hnew hs hg
  ·rw[cu _ _ hji,cu _ _ hji]
   cases hlv:(S.H j).c.live with
   |false=>
    cases hc:(S.H j).c with
    |dead=>trivial
    |box cs=>rw[hc]at hlv;cases hlv
    |row e k cs=>rw[hc]at hlv;cases hlv
   |true=>
    refine(h.obj j hj).mono hs hg (fun b hbj hlt=>hb b hlt (fun h1 h2=>hji (h.apart j id b hj hid hlv h1 hbj h2)))
 ·intro i j b hi hj hli hlj hbi hbj;simp only at hi hj hli hlj
  by_cases hii:i=id
  ·by_cases hjj:j=id
   ·rw[hii,hjj]
   ·subst hii;rw[ca]at hli hbi;rw[cu _ _ hjj]at hlj hbj;rcases hl b hli hbi with⟨h1,h2⟩|h1
    ·exact h.apart i j b hi hj h1 hlj h2 hbj
    ·have:=((h.obj j hj).uM hlj hbj).1;omega
  ·rw[cu _ _ hii]at hli hbi
   by_cases hjj:j=id
   ·subst hjj;rw[ca]at hlj hbj;rcases hl b hlj hbj with⟨h1,h2⟩|h1
    ·exact h.apart i j b hi hj hli h1 hbi h2
    ·have:=((h.obj i hi).uM hli hbi).1;omega
   ·rw[cu _ _ hjj]at hlj hbj;exact h.apart i j b hi hj hli hlj hbi hbj
 ·simp only at hj ⊢;rw[cu _ _ (by omega)]
  exact h.fresh j hj
 ·refine⟨⟨hos.trans h.fr.os,htape.trans h.fr.tape,hout.trans h.fr.output,QK h.fr.size hsz,fun b h1 h2=> ?_,h.fr.drawn.trans hdr⟩,h.fr.ko.trans ho⟩
  refine(hb b (QJ h1 h.fr.size) (fun h3 h4=> ?_)).trans (h.fr.block b h1 h2)
  rcases((h.obj id hid).uM h3 h4).2 with h5|h5
  ·exact h2 h5
  ·omega
 ·intro hb0 hlv hvr;simp only at hlv hvr
  by_cases hi0:0=id
  ·subst hi0;rw[ca]at hlv hvr ⊢;rcases hv with⟨e1,e2,e3⟩|e
   ·rw[e2];exact h.AV hb0 e3 (by omega)
   ·omega
  ·rw[cu _ _ hi0]at hlv hvr ⊢;exact h.AV hb0 hlv hvr
theorem Rel.drew(h:Rel E S a w L)(n:Nat)(hn:w.drawn<=n:=by first|exact QI _|exact Nat.le_add_right _ _|exact Nat.le_succ _|assumption|omega):Rel E S a {w with drawn:=n} L:=
 (h.grow (w':={w with drawn:=n}) rfl rfl rfl (QI _) (fun _ _=>rfl) (DL.of hn)).1
theorem Rel.room(h:Rel E S a w L)(k:Nat):Rel E {S with N:=S.N+k} a w L:=by
 have hm:∀b,bp E {S with N:=S.N+k} L b↔bp E S L b:=by
  intro b;constructor
  ·rintro(⟨j,hj,hl,hb⟩|hX)
   case inr=>exact .inr hX
   simp only at hj hl
   by_cases hlt:j<S.N
   ·exact .inl ⟨j,hlt,hl,hb⟩
   ·rw[h.fresh j (by omega)]at hl
    cases hl
  ·rintro(⟨j,hj,hl,hb⟩|hX)
   ·exact .inl ⟨j,by simp only;omega,hl,hb⟩
   ·exact .inr hX
 have hs:dj w w (bp E S L) (bp E {S with N:=S.N+k} L):=(dj.of fun _ hn=>fun hm'=>hn ((hm _).1 hm'))
 have hg:(S.gh L).le (St.gh {S with N:=S.N+k} L):=⟨by simp[St.gh],fun _ _=> .inl ⟨rfl,rfl⟩⟩
 refine⟨h.defers,h.size,fun t=>(h.env t).mono hs hg,fun id hid=> ?_,fun i j b hi hj hli hlj hbi hbj=> ?_,fun id hid=>h.fresh id (by simp only at hid;omega),h.fr,h.AV⟩
 ·by_cases hlt:id<S.N
  ·exact(h.obj id hlt).mono hs hg (fun _ _ _=>rfl)
  ·simp only;rw[h.fresh id (by omega)]
   trivial
 ·simp only at hi hj hli hlj
  have hi':i<S.N:=by
   rcases Nat.lt_or_ge i S.N with h1|h1
   ·exact h1
   ·rw[h.fresh i h1]at hli;cases hli
  have hj':j<S.N:=by
   rcases Nat.lt_or_ge j S.N with h1|h1
   ·exact h1
   ·rw[h.fresh j h1]at hlj;cases hlj
  exact h.apart i j b hi' hj' hli hlj hbi hbj
end
end
section
open Go.RowKit
inductive bg where
 |tmp (t:Nat)
 |Ab (x:PV)
def bg.val(S:St):bg->PV
 | .tmp t=>S.env t
 | .Ab x=>x
inductive LK where
 |i
 |s
 |b
inductive PQ where
 |cy
 |ir (lo hi:Bool)
 |YS
 |Vz (T:TypeId)
 |P9 (T:TypeId) (z:PV)
 |D7 (neg:Bool)
 |neg
inductive bX where
 |Ga (x:bg)
 |pick (c x y:bg)
 |box (x:bg)
 |AF (x:bg)
 |alloc (z:List PV)
 |load (n:Option Nat) (p:bg)
 |store (n:Nat) (p x:bg)
 |build (z:List PV) (ps:List (Nat×Nat×bg))
 |I7 (m:Bool) (e k:Nat) (z:List (List PV)) (ps:List (Nat×bg))
 |wH (off:Nat) (p:bg)
 |wE (k:Nat) (x i:bg)
 |wM (k len:Nat) (x i:bg)
 |bin (op:BinOp) (x y:bg)
 |ml (neg:Bool) (x y:bg)
 |Eh (neg:Bool) (x y:bg)
 |not (x:bg)
 |conv (k:IntKind) (x:bg)
 |len (isStr:Bool) (x:bg)
 |call (f:FuncId) (xs:List bg)
 |xS (fv:bg) (xs:List bg)
 |cZ (fz:Bool) (e k bytes:Nat) (s x:bg)
 |wA (x:bg)
 |AA (i:Nat) (x:bg)
 |Gb (f:FuncId) (caps:List bg)
 |Gc (f:FuncId) (first:List bg)
 |eqs (neg:Bool) (ks:List LK) (x y:bg)
 |H7 (e k bytes:Nat) (z:List PV) (l c:bg)
 |Dh (k:Nat) (x:bg) (lo hi:Option bg)
 |qF (mx:Bool) (x y:bg)
 |uC (neg:Bool) (x:bg)
 |dY (x i:bg)
 |AH (e:Nat) (n:Option Nat) (len k:Nat) (x i:bg)
 |Gs (n:Option Nat) (off:Nat) (x:bg)
 |oP (q:PQ) (xs:List bg)
 |Gv (e k:Nat) (x y:bg)
inductive RK where
 |no
 |Wh (e k:Nat)
 |Lq (e k:Nat)
 |fre (e k:Nat)
structure Model where
 recv:Bool
 pos:Nat
 fresh:Bool
 m:List PV->List PV->Option (PV×List PV)
 rk:RK
 ro:Bool
 rm:List (List PV)->List PV->Option (PV×List (List PV))
abbrev nk:=FuncId->Option Model
def cutAt{α:Type}(p:Nat)(l:List α):List α:=l.take p++l.drop (p+1)
def ic{α:Type}(p:Nat)(x l:List α):List α:=l.take p++x++l.drop p
def PV.closed:PV->Bool
 | .int ..| .bool _| .str _| .jj| .dx| .sl _| .ref _| .iu ..| .iJ _| .gA ..=>true
 | .cz _ []=>true
 |_=>false
def PV.mV:PV->Bool
 | .agg cs=>cs.all PV.plain
 |x=>x.plain
def PV.qu:PV->Bool
 | .cX cs=>cs.all PV.mV
 |x=>x.mV
def PV.bB:PV->Bool
 | .agg cs| .cX cs| .cz _ cs=>cs.all PV.closed
 |x=>x.closed
def PV.rO:PV->Bool
 | .cX cs=>cs.all PV.bB
 |x=>x.bB
def fz(H:Nat->fc)(ex:Option Nat):Nat->PV->PV
 |0,x=>match x with| .dx=> .sl []|x=>if x.closed then x else .any
 |_+1,.dx=> .sl []
 |n+1,.own id ar=>if some id=ex\/(H id).ar≠ar then .any else
   match(H id).c with
   | .row _ _ es=> .sl (es.map fun e=>e.map (fz H ex n))
   |_=> .any
 |n+1,.ptr id ar off=>if some id=ex\/(H id).ar≠ar then .any else
   match(H id).c with
   | .box cs=> .ref ((cs.map (fz H ex n)).drop off)
   |_=> .any
 |n+1,.agg cs=> .agg (cs.map (fz H ex n))
 |n+1,.cX cs=> .cX (cs.map (fz H ex n))
 |n+1,.cz f cs=> .cz f (cs.map (fz H ex n))
 |_+1,x=>if x.closed then x else .any
def nz:PV->PV
 | .dx=> .sl []
 |x=>x
def PV.No:PV->Bool
 | .dx=>false
 |_=>true
def yC(es:List (List PV)):List (List PV):=es.map fun e=>e.map nz
def yB(es:List (List PV)):Bool:=es.all fun u=>u.all PV.closed
def yz(es:List (List PV)):Bool:=es.all fun u=>u.all PV.plain
def wc(m:Model)(e k:Nat)(S:St)(args:List PV):Option (PV×Option (Nat×fc)):=
 match args with
 | .own id ar::rest=>
  if(S.H id).ar=ar then
   match(S.H id).c with
   | .row e' k' es=>
    if e'=e/\k'=k/\yB es=true then
     match m.rm es (rest.map (fz S.H (some id) 9))with
     |some (r,es')=>if(r.qu||rest.all PV.bB&&r.rO)&&yB es'&&(yz es'||rest.all PV.bB)then some (r,some (id,⟨ar,.row e k es'⟩))else none
     |none=>none
    else none
   |_=>none
  else none
 |_=>none
def wb(m:Model)(e k:Nat)(S:St)(args:List PV):Option (PV×Option (Nat×fc)):=
 match args with
 | .own id ar::rest=>
  if(S.H id).ar=ar then
   match(S.H id).c with
   | .row e' k' es=>
    if e'=e/\k'=k/\yB es=true then
     match m.rm es (rest.map (fz S.H (some id) 9))with
     |some (_,es')=>if yB es'&&(yz es'||rest.all PV.bB)then some (.own id (ar+1),some (id,⟨ar+1,.row e k es'⟩))else none
     |none=>none
    else none
   |_=>none
  else none
 |_=>none
def Bn(m:Model)(e k:Nat)(nid:Nat)(S:St)(args:List PV):Option (PV×Option (Nat×fc)):=
 match m.rm [] (args.map (fz S.H none 9))with
 |some (_,es')=>if yB es'&&(yz es'||args.all PV.bB)then some (.own nid ((S.H nid).ar+1),some (nid,⟨(S.H nid).ar+1,.row e k es'⟩))else none
 |none=>none
def kJ(Γ:nk)(nid:Nat)(S:St)(f:FuncId)(args:List PV):Option (PV×Option (Nat×fc)):=
 match Γ f with
 |none=>none
 |some m=>
  match m.rk with
  | .Wh e k=>wc m e k S args
  | .Lq e k=>wb m e k S args
  | .fre e k=>Bn m e k nid S args
  | .no=>
  if m.fresh then
   match m.m [] (args.map (fz S.H none 9))with
   |some (_,cs)=>if cs.all PV.closed&&(cs.all PV.plain||args.all PV.bB)then some (.ptr nid ((S.H nid).ar+1) 0,some (nid,⟨(S.H nid).ar+1,.box cs⟩))else none
   |none=>none
  else if m.recv then
   match args[m.pos]? with
   |some (.ptr id ar 0)=>
    if(S.H id).ar=ar then
     match(S.H id).c with
     | .box cs=>
      if cs.all PV.closed then
       match m.m (cs.map nz) ((cutAt m.pos args).map (fz S.H (some id) 9))with
       |some (r,cs')=>if(r.qu||(cutAt m.pos args).all PV.bB)&&r.rO&&cs'.all PV.closed&&(cs'.all PV.plain||(cutAt m.pos args).all PV.bB)then some (r,if m.ro&&cs.all PV.No then none else some (id,⟨ar,.box cs'⟩))else none
       |none=>none
      else none
     |_=>none
    else none
   |_=>none
  else
   match m.m [] (args.map (fz S.H none 9))with
   |some (r,_)=>if r.qu||args.all PV.bB&&r.rO then some (r,none)else none
   |none=>none
def Ey(op:BinOp)(k:IntKind)(a b:Int):Option PV:=
 match op with
 | .add=>some (.int k (k.wrap (a+b)))
 | .sub=>some (.int k (k.wrap (a - b)))
 | .mul=>some (.int k (k.wrap (a*b)))
 | .quo=>if b=0 then none else some (.int k (k.wrap (a.tdiv b)))
 | .rem=>if b=0 then none else some (.int k (a.tmod b))
 | .and=>some (.int k (k.wrap ((BitVec.ofInt k.bits a&&&BitVec.ofInt k.bits b).toNat)))
 | .or=>some (.int k (k.wrap ((BitVec.ofInt k.bits a|||BitVec.ofInt k.bits b).toNat)))
 | .xor=>some (.int k (k.wrap ((BitVec.ofInt k.bits a^^^BitVec.ofInt k.bits b).toNat)))
 | .andNot=>some (.int k (k.wrap ((BitVec.ofInt k.bits a&&& ~~~ BitVec.ofInt k.bits b).toNat)))
 | .eql=>some (.bool (decide (a=b)))
 | .neq=>some (.bool (!decide (a=b)))
 | .lss=>some (.bool (decide (a<b)))
 | .leq=>some (.bool (decide (a<=b)))
 | .gtr=>some (.bool (decide (b<a)))
 | .geq=>some (.bool (decide (b<=a)))
 |_=>none
def mA(a b:ByteArray):Bool:=Op.bytesLess a.toList b.toList
def I8(op:BinOp)(a b:ByteArray):Option PV:=
 match op with
 | .eql=>some (.bool (decide (a=b)))
 | .neq=>some (.bool (!decide (a=b)))
 | .lss=>some (.bool (mA a b))
 | .leq=>some (.bool (mA a b||decide (a=b)))
 | .gtr=>some (.bool (!(mA a b||decide (a=b))))
 | .geq=>some (.bool (!mA a b))
 |_=>none
def Fo(op:BinOp)(x y:PV):Option PV:=
 match x,y with
 | .int k a,.int k' b=>
  match op with
  | .shl=>if b<0 then none else some (.int k (k.wrap (a*2 ^ (min b.toNat k.bits))))
  | .shr=>if b<0 then none else some (.int k (a.fdiv (2 ^ (min b.toNat k.bits))))
  |_=>if k=k' then Ey op k a b else none
 | .str a,.str b=>I8 op a b
 |_,_=>none
def tT:Option Nat->List PV->Option PV
 |none,x::_=>some x
 |none,[]=>none
 |some n,cs=>if n<=cs.length then some (.agg (cs.take n))else none
def gz(cs:List PV)(off:Nat)(xs:List PV):List PV:=cs.take off++xs++cs.drop (off+xs.length)
def ig(S:St):PV->Option (List (List PV))
 | .dx=>some []
 | .sl es=>some es
 | .own id ar=>if(S.H id).ar=ar then(match(S.H id).c with| .row _ _ es=>some es|_=>none)else none
 | .view id ar k lo n=>if(S.H id).ar=ar then(match(S.H id).c with| .row _ k' es=>if k'=k then some ((es.drop lo).take n)else none|_=>none)else none
 |_=>none
def pS(S:St)(y:Option bg)(d:Int):Option Int:=
 match y with
 |none=>some d
 |some l=>match l.val S with| .int _ n=>some n|_=>none
def ox(S:St):List PV->List (Nat×Nat×bg)->Option (List PV)
 |cs,[]=>some cs
 |cs,(off,n,x)::rest=>
  if(x.val S).cells.length=n/\off+n<=cs.length/\(x.val S).cells.all PV.one=true then ox S (gz cs off (x.val S).cells) rest else none
def qN(S:St)(k:Nat):List (List PV)->List (Nat×bg)->Option (List (List PV))
 |es,[]=>some es
 |es,(i,x)::rest=>
  if(x.val S).cells.length=k/\i<es.length/\(x.val S).cells.all PV.one=true then qN S k (es.set i (x.val S).cells) rest else none
def dY(s:ByteArray)(n:Int):Option Int:=if 0<=n then(s[n.toNat]?).map fun b=>(b.toNat:Int)else none
def jV:List LK->List PV->List PV->Option Bool
 |[],[],[]=>some true
 | .i::ks,.int k a::cs,.int l b::ds=>if k=l then(jV ks cs ds).map fun r=>decide (a=b)&&r else none
 | .s::ks,.str a::cs,.str b::ds=>(jV ks cs ds).map fun r=>decide (a=b)&&r
 | .b::ks,.bool a::cs,.bool b::ds=>(jV ks cs ds).map fun r=>decide (a=b)&&r
 |_,_,_=>none
def EA(z:Bool)(id ar e k:Nat)(es:List (List PV)):Option (PV×Option (Nat×fc)):=
 match z with
 |false=>some (.own id ar,some (id,⟨ar,.row e k es⟩))
 |true=>if es.all (fun u=>u.all PV.closed)then some (.sl es,some (id,⟨ar,.dead⟩))else none
def byteOf(n:Int):Option UInt8:=if 0<=n/\n<256 then some (UInt8.ofNat n.toNat)else none
def bytesOf:List (List PV)->Option (List UInt8)
 |[]=>some []
 |[.int .u8 n]::l=>match byteOf n,bytesOf l with
  |some b,some bs=>some (b::bs)
  |_,_=>none
 |_=>none
def cy(a b:ByteArray):Option ByteArray:=if a.size+b.size<=9223372036854775807 then some (a++b)else none
def ir(s:ByteArray)(l h:Int):Option ByteArray:=if 0<=l/\l<=h/\h<=s.size then some (s.extract l.toNat h.toNat)else none
def lI:PQ->List PV->Option PV
 | .cy,[.str a,.str b]=>(cy a b).map .str
 | .ir false false,[.str s]=>some (.str s)
 | .ir true false,[.str s,.int _ l]=>(ir s l s.size).map .str
 | .ir false true,[.str s,.int _ h]=>(ir s 0 h).map .str
 | .ir true true,[.str s,.int _ l,.int _ h]=>(ir s l h).map .str
 | .YS,[.sl es]=>(bytesOf es).map fun l=> .str ⟨l.toArray⟩
 | .Vz T,[x]=>if x.plain&&x.one then some (.gA T x)else none
 | .P9 T z,[.gA T' x]=>some (if T'=T then .cX [x,.bool true]else .cX [z,.bool false])
 | .P9 _ z,[.iJ true]=>some (.cX [z,.bool false])
 | .D7 neg,[.gA ..]=>some (.bool neg)
 | .D7 neg,[.iJ b]=>some (.bool (xor neg b))
 | .neg,[.int k n]=>some (.int k (k.wrap (0 - n)))
 |_,_=>none
def ll{α:Type}(xs:List α)(lo n:Nat)(ys:List α):List α:=xs.take lo++ys.take n++xs.drop (lo+min n ys.length)
def exec(Γ:nk)(nid:Nat)(S:St):bX->Option (PV×Option (Nat×fc))
 | .Ga x=>some (x.val S,none)
 | .pick c x y=>match c.val S with
  | .bool true=>some (x.val S,none)
  | .bool false=>some (y.val S,none)
  |_=>none
 | .box x=>if(x.val S).cells.all PV.one then some (.ptr nid ((S.H nid).ar+1) 0,some (nid,⟨(S.H nid).ar+1,.box (x.val S).cells⟩))else none
 | .AF x=>if(x.val S).cells.all PV.one&&(x.val S).cells.all PV.closed then some (.ref (x.val S).cells,none)else none
 | .alloc z=>some (.ptr nid ((S.H nid).ar+1) 0,some (nid,⟨(S.H nid).ar+1,.box z⟩))
 | .load n p=>match p.val S with
  | .ptr id ar off=>if(S.H id).ar=ar then(match(S.H id).c with| .box cs=>(tT n (cs.drop off)).map (·,none)|_=>none)else none
  | .ed id ar k i off=>if(S.H id).ar=ar then(match(S.H id).c with| .row _ k' es=>if k=k' then(match es[i]? with|some e=>(tT n (e.drop off)).map (·,none)|none=>none)else none|_=>none)else none
  | .ref cs=>(tT n cs).map (·,none)
  |_=>none
 | .store n p x=>if(x.val S).cells.length=n/\(x.val S).cells.all PV.one=true then
   match p.val S with
   | .ptr id ar off=>if(S.H id).ar=ar then(match(S.H id).c with| .box cs=>if off+n<=cs.length then some (.undef,some (id,⟨ar,.box (gz cs off (x.val S).cells)⟩))else none|_=>none)else none
   | .ed id ar k i off=>if(S.H id).ar=ar then(match(S.H id).c with| .row e k' es=>if k=k' then(match es[i]? with|some c=>if off+n<=c.length then some (.undef,some (id,⟨ar,.row e k (es.set i (gz c off ((x.val S).cells.map nz)))⟩))else none|none=>none)else none|_=>none)else none
   |_=>none
  else none
 | .build z ps=>(ox S z ps).map fun cs=>(.agg cs,none)
 | .I7 m e k z ps=>match qN S k z ps with
  |some es=>if m=false/\es.all (fun u=>u.all PV.closed)=true then some (.sl (yC es),none)else some (.own nid ((S.H nid).ar+1),some (nid,⟨(S.H nid).ar+1,.row e k (yC es)⟩))
  |none=>none
 | .wH off p=>match p.val S with
  | .ptr id ar o=>if(S.H id).ar=ar then(match(S.H id).c with| .box _=>some (.ptr id ar (o+off),none)|_=>none)else none
  | .ed id ar k i o=>if(S.H id).ar=ar then(match(S.H id).c with| .row _ _ es=>if i<es.length then some (.ed id ar k i (o+off),none)else none|_=>none)else none
  | .ref cs=>some (.ref (cs.drop off),none)
  |_=>none
 | .wE k x i=>match i.val S with
  | .int _ n=>match x.val S with
   | .sl es=>if 0<=n/\n<es.length then(match es[n.toNat]? with|some e=>if e.length=k then some (.ref e,none)else none|none=>none)else none
   | .own id ar=>if(S.H id).ar=ar then(match(S.H id).c with| .row _ k' es=>if k=k'/\0<=n/\n<es.length then some (.ed id ar k n.toNat 0,none)else none|_=>none)else none
   | .view id ar k0 lo m=>if(S.H id).ar=ar then(match(S.H id).c with| .row _ k' es=>if k=k'/\k0=k/\0<=n/\n<m/\lo+n.toNat<es.length then some (.ed id ar k (lo+n.toNat) 0,none)else none|_=>none)else none
   |_=>none
  |_=>none
 | .wM k len x i=>match i.val S with
  | .int _ n=>if 0<=n/\n<len then(match x.val S with
   | .ptr id ar o=>if(S.H id).ar=ar then(match(S.H id).c with| .box _=>some (.ptr id ar (o+n.toNat*k),none)|_=>none)else none
   | .ref cs=>some (.ref (cs.drop (n.toNat*k)),none)
   |_=>none)else none
  |_=>none
 | .bin op x y=>(Fo op (x.val S) (y.val S)).map (·,none)
 | .ml neg x y=>match x.val S,y.val S with
  | .agg [.int k a,.str s],.agg [.int k' b,.str t]=>if k=k' then some (.bool (xor neg (decide (a=b)&&decide (s=t))),none)else none
  |_,_=>none
 | .eqs neg ks x y=>match x.val S,y.val S with
  | .agg cs,.agg ds=>(jV ks cs ds).map fun b=>(.bool (xor neg b),none)
  |_,_=>none
 | .Eh neg x y=>match x.val S,y.val S with
  | .bool a,.bool b=>some (.bool (xor neg (decide (a=b))),none)
  |_,_=>none
 | .not x=>match x.val S with
  | .bool b=>some (.bool !b,none)
  |_=>none
 | .conv k x=>match x.val S with
  | .int _ n=>some (.int k (k.wrap n),none)
  |_=>none
 | .len true x=>match x.val S with
  | .str s=>some (.int .i64 s.size,none)
  |_=>none
 | .len false x=>(ig S (x.val S)).map fun es=>(.int .i64 es.length,none)
 | .call f xs=>kJ Γ nid S f (xs.map (·.val S))
 | .xS fv xs=>match fv.val S with
  | .cz f caps=>kJ Γ nid S f (xs.map (·.val S)++caps)
  | .iM f first=>kJ Γ nid S f (first++xs.map (·.val S))
  |_=>none
 | .cZ z e k bytes s x=>match ig S (x.val S)with
  |some news=>if news.all (fun u=>u.length==k&&u.all PV.one)then(match s.val S with
   | .dx=>if news.length*bytes<=140737488355328/\news.length<=maxLen then EA z nid ((S.H nid).ar+1) e k news else none
   | .own id ar=>if(S.H id).ar=ar then(match(S.H id).c with
    | .row e' k' es=>if e=e'/\k=k'/\(es.length+news.length)*bytes<=140737488355328/\es.length+news.length<=maxLen then EA z id (ar+1) e k (es++news)else none
    |_=>none)else none
   |_=>none)else none
  |none=>none
 | .wA x=>match x.val S with
  | .ptr id ar off=>if(S.H id).ar=ar then(match(S.H id).c with| .box _=>some (.ptr id ar off,none)|_=>none)else none
  | .ref cs=>some (.ref cs,none)
  | .cz f cs=>some (.cz f cs,none)
  |_=>none
 | .AA i x=>match x.val S with
  | .cX cs=>(cs[i]?).map (·,none)
  |_=>none
 | .Gb f caps=>some (.cz f (caps.map (·.val S)),none)
 | .Gc f first=>some (.iM f (first.map (·.val S)),none)
 | .H7 e k bytes z l c=>match l.val S,c.val S with
  | .int _ n,.int _ m=>if n<=m/\0<=n/\m.toNat*bytes<=140737488355328/\m.toNat<=maxLen then some (.own nid ((S.H nid).ar+1),some (nid,⟨(S.H nid).ar+1,.row e k (List.replicate n.toNat (z.map nz))⟩))else none
  |_,_=>none
 | .Dh k x lo hi=>match x.val S with
  | .sl es=>if es.all (fun e=>e.length==k)then
   match(match lo with|none=>some (0:Int)|some l=>(match l.val S with| .int _ n=>some n|_=>none)),(match hi with|none=>some (es.length:Int)|some h=>(match h.val S with| .int _ n=>some n|_=>none))with
   |some l,some h=>if 0<=l/\l<=h/\h<=es.length then some (.sl ((es.take h.toNat).drop l.toNat),none)else none
   |_,_=>none
   else none
  | .own id ar=>if(S.H id).ar=ar then(match(S.H id).c with
   | .row _ k' es=>if k=k' then
    match pS S lo 0,pS S hi es.length with
    |some l,some h=>if 0<=l/\l<=h/\h<=es.length then some (.view id ar k l.toNat (h.toNat - l.toNat),none)else none
    |_,_=>none
    else none
   |_=>none)else none
  | .view id ar k0 lo0 n0=>if(S.H id).ar=ar then(match(S.H id).c with
   | .row _ k' _=>if k=k'/\k0=k then
    match pS S lo 0,pS S hi n0 with
    |some l,some h=>if 0<=l/\l<=h/\h<=n0 then some (.view id ar k (lo0+l.toNat) (h.toNat - l.toNat),none)else none
    |_,_=>none
    else none
   |_=>none)else none
  |_=>none
 | .qF mx x y=>match x.val S,y.val S with
  | .int k a,.int k' b=>if k=k' then some (.int k (if mx then(if b>a then b else a)else(if b<a then b else a)),none)else none
  |_,_=>none
 | .uC neg x=>match x.val S with
  | .dx=>some (.bool !neg,none)
  |y=>match ig S y with
   |some []=>some (.fB,none)
   |some (_::_)=>some (.bool neg,none)
   |none=>none
 | .dY x i=>match x.val S,i.val S with
  | .str s,.int _ n=>(dY s n).map fun b=>(.int .u8 b,none)
  |_,_=>none
 | .AH _ n len k x i=>match x.val S,i.val S with
  | .agg cs,.int _ j=>if 0<=j/\j<len then(tT n ((cs.drop (j.toNat*k)).map nz)).map (·,none)else none
  |_,_=>none
 | .Gs n off x=>match x.val S with
  | .agg cs=>(tT n (cs.drop off)).map (·,none)
  |_=>none
 | .oP q xs=>(lI q (xs.map (·.val S))).map (·,none)
 | .Gv e k x y=>match ig S (y.val S)with
  |none=>none
  |some ys=>match x.val S with
   | .own id ar=>if(S.H id).ar=ar then(match(S.H id).c with
    | .row e' k' es=>if e=e'/\k=k'/\ys.all (fun u=>u.length==k&&u.all PV.one)=true then some (.int .i64 (min es.length ys.length:Nat),some (id,⟨ar,.row e k (ll es 0 es.length ys)⟩))else none
    |_=>none)else none
   | .view id ar k0 lo n=>if(S.H id).ar=ar then(match(S.H id).c with
    | .row e' k' es=>if e=e'/\k=k'/\k0=k/\ys.all (fun u=>u.length==k&&u.all PV.one)=true then some (.int .i64 (min n ys.length:Nat),some (id,⟨ar,.row e k (ll es lo n ys)⟩))else none
    |_=>none)else none
   |_=>none
structure SG where
 d:Option Nat
 g:Option (Nat×Bool)
 op:bX
def St.cZ(S:St)(d:Option Nat)(x:PV)(wr:Option (Nat×fc)):St:=
 {env:=match d with|some d=>bS S.env d x|none=>S.env,H:=match wr with|some (id,o)=>bS S.H id o|none=>S.H,N:=S.N}
def SG.wanted(S:St)(o:SG):Option Bool:=
 match o.g with
 |none=>some true
 |some (t,want)=>match S.env t with
  | .bool b=>some (b==want)
  | .undef=>some false
  |_=>none
def CD(Γ:nk)(nid:Nat)(S:St)(o:SG):Option St:=
 match o.wanted S with
 |some true=>(exec Γ nid S o.op).map fun p=>S.cZ o.d p.1 p.2
 |some false=>some (S.cZ o.d .undef none)
 |none=>none
def WR(Γ:nk):Nat->List SG->St->Option St
 |_,[],S=>some S
 |nid,o::rest,S=>match CD Γ nid S o with
  |some S'=>WR Γ (nid+1) rest S'
  |none=>none
def vZ:Value->Option PV
 | .bool b=>some (.bool b)
 | .int k n=>some (.int k n)
 | .string s=>some (.str s)
 | .pointer none=>some .jj
 | .slice none 0 0=>some .dx
 | .nilFunc=>some .any
 | .nilIface=>some (.iJ true)
 |_=>none
def bb:Operand->Option bg
 | .tmp t=>some (.tmp t)
 | .const v=>(vZ v).map .Ab
 | .func f=>some (.Ab (.cz f []))
 | .global _=>none
def pT(P:Program)(t:TypeId):Option (Option Nat):=
 match P.underlying t with
 |some (.struct _)|some (.array _ _)=>(P.info? t).map fun i=>some i.size
 |some _=>some none
 |none=>none
def tY(P:Program)(t:TypeId):Option (List PV):=
 match P.info? t with
 |some i=>match i.zero with
  |some z=>if z.cells.size=i.size then z.cells.toList.mapM vZ else none
  |none=>none
 |none=>none
def sL(place:Nat->Option (Nat×Nat))(parts:List (Nat×Operand)):Option (List (Nat×Nat×bg)):=
 parts.mapM fun p=>do
  let q <-place p.1
  let y <-bb p.2
  some (q.1,q.2,y)
def J8(P:Program)(sh:TypeId->Option (List LK)):List Field->Nat->Option (List LK)
 |[],_=>some []
 |f::fs,off=>
  if f.name≠ "_"/\f.offset=off then
   match sh f.type,P.info? f.type with
   |some ks,some i=>if i.size=ks.length then(J8 P sh fs (off+ks.length)).map (ks++·)else none
   |_,_=>none
  else none
def vX(P:Program):Nat->TypeId->Option (List LK)
 |0,_=>none
 |d+1,t=>match P.underlying t with
  |some (.int _)=>some [.i]
  |some .string=>some [.s]
  |some .bool=>some [.b]
  |some (.struct fs)=>if P.stoodInHeld t=false then J8 P (vX P d) fs.toList 0 else none
  |_=>none
def Yq(hs:List Nat)(o:Oper):Bool:=match o.dst with|some t=>hs.contains t|none=>false
def I4(P:Program)(hs:List Nat)(o:Oper):Option bX:=
 match o.op with
 | .move x| .assign x=>do some (.Ga (<-bb x))
 | .pick c a b=>do some (.pick (<-bb c) (<-bb a) (<-bb b))
 | .box _ x=>do
  let y <-bb x
  some (match o.dst with|some t=>(match hs.contains t with|true=> .AF y|false=> .box y)|none=> .box y)
 | .alloc t=>do some (.alloc (<-tY P t))
 | .load t p=>do some (.load (<-pT P t) (<-bb p))
 | .store t p x=>do some (.store (<-P.info? t).size (<-bb p) (<-bb x))
 | .build t parts=>
  match P.underlying t with
  |some (.struct fields)=>do
   let z <-tY P t
   let places <-fields.toList.mapM (fun f=>(P.info? f.type).map fun i=>(f.offset,i.size))
   some (.build z (<-sL (fun i=>places[i]?) parts.toList))
  |some (.array _ e)=>do
   let z <-tY P t
   let i <-P.info? e
   some (.build z (<-sL (fun j=>some (j*i.size,i.size)) parts.toList))
  |_=>none
 | .buildSlice t len parts=>
  match P.underlying t with
  |some (.slice e)=>do
   let i <-P.info? e
   let z <-tY P e
   let ps <-parts.toList.mapM fun p=>(bb p.2).map fun y=>(p.1,y)
   if len*i.size<=16777216/\0<i.size/\len<=maxLen then some (.I7 (match o.dst with|some t=>hs.contains t|none=>true) e i.size (List.replicate len z) ps)else none
  |_=>none
 | .fieldAddr s x f=>
  match P.underlying s with
  |some (.struct fields)=>do
   let fd <-fields[f]?
   let i <-P.info? fd.type
   if i.size=0 then none else some (.wH fd.offset (<-bb x))
  |_=>none
 | .indexAddr t x i=>
  match P.underlying t with
  |some (.slice e)=>do some (.wE (<-P.info? e).size (<-bb x) (<-bb i))
  |some (.array n e)=>do some (.wM (<-P.info? e).size n (<-bb x) (<-bb i))
  |_=>none
 | .binOp op t x y _=>
  match P.underlying t with
  |some (.struct fs)=>
   match fs.toList with
   |[f,g]=>
    match P.underlying f.type,P.underlying g.type with
    |some (.int _),some .string=>
     if f.offset=0/\g.offset=1/\f.name≠ "_"/\g.name≠ "_"/\P.stoodInHeld t=false/\P.eqGuardType P.depth t=false then
      match op with
      | .eql=>do some (.ml false (<-bb x) (<-bb y))
      | .neq=>do some (.ml true (<-bb x) (<-bb y))
      |_=>none
     else none
    |_,_=>
     match vX P 64 t with
     |some ks=>
      if P.eqGuardType P.depth t=false then
       match op with
       | .eql=>do some (.eqs false ks (<-bb x) (<-bb y))
       | .neq=>do some (.eqs true ks (<-bb x) (<-bb y))
       |_=>none
      else none
     |none=>none
   |_=>
    match vX P 64 t with
    |some ks=>
     if P.eqGuardType P.depth t=false then
      match op with
      | .eql=>do some (.eqs false ks (<-bb x) (<-bb y))
      | .neq=>do some (.eqs true ks (<-bb x) (<-bb y))
      |_=>none
     else none
    |none=>none
  |some (.slice _)=>
   match y with
   | .const (.slice none 0 0)=>
    match op with
    | .eql=>do some (.uC false (<-bb x))
    | .neq=>do some (.uC true (<-bb x))
    |_=>none
   |_=>none
  |some .bool=>
   match op with
   | .eql=>do some (.Eh false (<-bb x) (<-bb y))
   | .neq=>do some (.Eh true (<-bb x) (<-bb y))
   |_=>none
  |some .string=>
   match op with
   | .add=>do some (.oP .cy [<-bb x,<-bb y])
   |_=>do some (.bin op (<-bb x) (<-bb y))
  |some (.interface _)=>
   match y with
   | .const .nilIface=>
    match op with
    | .eql=>do some (.oP (.D7 false) [<-bb x])
    | .neq=>do some (.oP (.D7 true) [<-bb x])
    |_=>none
   |_=>none
  |_=>do some (.bin op (<-bb x) (<-bb y))
 | .unOp .not _ x=>do some (.not (<-bb x))
 | .convert src dst x=>
  match P.underlying src,P.underlying dst with
  |some (.int _),some (.int k)=>do some (.conv k (<-bb x))
  |some (.slice e),some .string=>
   match P.underlying e with
   |some (.int .u8)=>do some (.oP .YS [<-bb x])
   |_=>none
  |_,_=>none
 | .index t x i=>
  match P.underlying t with
  |some .string=>do some (.dY (<-bb x) (<-bb i))
  |some (.array len e)=>do some (.AH e (<-pT P e) len (<-P.info? e).size (<-bb x) (<-bb i))
  |_=>none
 | .lookup t m x ok=>
  none
 | .nilCheck x=>do some (.wA (<-bb x))
 | .extract x i=>do some (.AA i (<-bb x))
 | .makeFunc (.func f) first caps=>if first.size=0 then do some (.Gb f (<-caps.toList.mapM bb))else if caps.size=0 then do some (.Gc f (<-first.toList.mapM bb))else none
 | .makeSlice t l c=>
  match P.underlying t with
  |some (.slice e)=>do
   let i <-P.info? e
   if 0<i.size then some (.H7 e i.size i.bytes (<-tY P e) (<-bb l) (<-bb c))else none
  |_=>none
 | .slice t x lo hi none=>
  match P.underlying t with
  |some (.slice e)=>do
   let i <-P.info? e
   some (.Dh i.size (<-bb x) (<-lo.mapM bb) (<-hi.mapM bb))
  |some .string=>
   match lo,hi with
   |none,none=>none
   |some l,none=>do some (.oP (.ir true false) [<-bb x,<-bb l])
   |none,some h=>do some (.oP (.ir false true) [<-bb x,<-bb h])
   |some l,some h=>do some (.oP (.ir true true) [<-bb x,<-bb l,<-bb h])
  |_=>none
 | .call {callee:= .value f,args,..}=>do
  let xs <-args.toList.mapM bb
  match f with
  | .func f=>some (.call f xs)
  |_=>some (.xS (<-bb f) xs)
 | .call {callee:= .builtin b,args,argTypes}=>
  match b,args.toList,argTypes.toList with
  | .len,[x],[t]=>
   match P.underlying t with
   |some .string=>do some (.len true (<-bb x))
   |some (.slice _)=>do some (.len false (<-bb x))
   |_=>none
  | .append,[s,x],[t,t']=>
   match P.underlying t with
   |some (.slice e)=>do
    let i <-P.info? e
    let z <-i.zero
    if t=t'/\z.cells.size=i.size/\0<i.size then some (.cZ (Yq hs o) e i.size i.bytes (<-bb s) (<-bb x))else none
   |_=>none
  | .clear,[x],[t]=>
   none
  | .copy,[x,y],[t,t']=>
   match P.underlying t with
   |some (.slice e)=>do
    let i <-P.info? e
    if t=t'/\0<i.size then some (.Gv e i.size (<-bb x) (<-bb y))else none
   |_=>none
  | .min,[x,y],_=>do some (.qF false (<-bb x) (<-bb y))
  | .max,[x,y],_=>do some (.qF true (<-bb x) (<-bb y))
  |_,_,_=>none
 | .field t x i=>
  match P.underlying t with
  |some (.struct fs)=>
   match fs[i]? with
   |some f=>do some (.Gs (<-pT P f.type) f.offset (<-bb x))
   |none=>none
  |_=>none
 | .makeInterface t x=>if P.concrete t=true then do some (.oP (.Vz t) [<-bb x])else none
 | .typeAssert x _ t true=>
  match P.underlying t,P.info? t with
  |some (.interface _),_=>none
  |some _,some i=>do some (.oP (.P9 t (<-vZ (<-i.zero))) [<-bb x])
  |_,_=>none
 | .unOp .neg _ x=>do some (.oP .neg [<-bb x])
 |_=>none
end
section
open Go.RowKit
def Mc(recv:Bool)(rb:Nat)(X:Nat->Prop)(b:Nat):Prop:=(recv=true/\b=rb)\/X b
def Enters(P:Program)(f:FuncId):Prop:=∃fn,P.funcs[f]?=some fn/\fn.body.isSome=true/\(fn.name== "runtime.NumGoroutine")=false
def pV(recv:Bool)(rb:Nat):List Value:=if recv then[.pointer (some ⟨rb,0,none⟩)]else[]
def Se(recv:Bool)(rb:Nat)(X:Nat->Prop)(w:World)(r:PV)(cs':List PV)(e:Ending)(w':World):Prop:=
 ∃(v:Value) (rvs':List Value),e= .returned v/\aW w' (Mc recv rb X) dm r v/\(recv=true->(∃T,w'.heap[rb]?=some (.cells rvs'.toArray T (0,0)))/\aR w' (Mc recv rb X) dm cs' rvs')/\
  Fr (if recv then some rb else none) w w'
def wX(P:Program)(f:FuncId)(pos:Nat)(recv:Bool)(cs args:List PV)(r:PV)(cs':List PV):Prop:=
 ∀(w:World) (X:Nat->Prop) (_:qR w X) (rb:Nat) (T:TypeId) (rvs vs:List Value),
  (recv=true->w.heap[rb]?=some (.cells rvs.toArray T (0,0))/\aR w (Mc recv rb X) dm cs rvs/\¬gb rb)->aR w (Mc recv rb X) dm args vs->
  Calls P f (ic pos (pV recv rb) vs).toArray w (Se recv rb X w r cs')
abbrev Bw(P:Program)(f:FuncId):=wX P f 0
theorem K7{α:Type}(p:Nat)(l:List α):ic p [] l=l:=by simp[ic]
def Ue(P:Program)(f:FuncId)(args cs:List PV):Prop:=
 ∀(w:World) (X:Nat->Prop) (_:qR w X) (vs:List Value),aR w X dm args vs->
  Calls P f vs.toArray w fun e w'=>∃(b:Nat) (rvs:List Value) (T:TypeId),e= .returned (.pointer (some ⟨b,0,none⟩))/\w.heap.size<=b/\w'.heap[b]?=some (.cells rvs.toArray T (0,0))/\aR w' (fun q=>X q\/q=b) dm cs rvs/\Fr none w w'
def Ft(w:World)(M:Nat->Prop)(e k:Nat)(v:Value)(es:List (List PV)):Prop:=
 ∃(vs:List Value),w.ownsRow 0 e k v es.length vs/\(∀x∈es,x.length=k)/\aR w M dm es.flatten vs
def Mv(v:Value)(X:Nat->Prop)(b:Nat):Prop:=dS v=some b\/X b
def Ym(P:Program)(f:FuncId)(e k:Nat)(es:List (List PV))(args:List PV)(r:PV)(es':List (List PV)):Prop:=
 ∀(w:World) (X:Nat->Prop) (_:qR w X) (v:Value) (vs:List Value),(∀b,dS v=some b->¬X b/\¬gb b)->Ft w (Mv v X) e k v es->aR w (Mv v X) dm args vs->
  Calls P f (v::vs).toArray w fun en w'=>∃u,en= .returned u/\aW w' (Mv v X) dm r u/\Ft w' (Mv v X) e k v es'/\Fr (dS v) w w'
def Yn(P:Program)(f:FuncId)(e k:Nat)(es:List (List PV))(args:List PV)(es':List (List PV)):Prop:=
 ∀(w:World) (X:Nat->Prop) (_:qR w X) (v:Value) (vs:List Value),(∀b,dS v=some b->¬X b/\¬gb b)->Ft w (Mv v X) e k v es->aR w (Mv v X) dm args vs->
  Calls P f (v::vs).toArray w fun en w'=>∃u,en= .returned u/\Ft w' (Mv u X) e k u es'/\(∀b,dS u=some b->dS v=some b\/w.heap.size<=b)/\Fr (dS v) w w'
def Uf(P:Program)(f:FuncId)(args:List PV)(e k:Nat)(es':List (List PV)):Prop:=
 ∀(w:World) (X:Nat->Prop) (_:qR w X) (vs:List Value),aR w X dm args vs->
  Calls P f vs.toArray w fun en w'=>∃u,en= .returned u/\Ft w' (Mv u X) e k u es'/\(∀b,dS u=some b->w.heap.size<=b)/\Fr none w w'
structure Wu (b c:Nat) (w0 w:World):Prop where
 os:w.os=w0.os
 tape:w.tape=w0.tape
 output:w.output=w0.output
 size:w0.heap.size<=w.heap.size
 block:∀k,k<w0.heap.size->k≠b->k≠c->w.heap[k]?=w0.heap[k]?
 drawn:DL w0 w
def Ug(P:Program)(f:FuncId)(cs ds cs' ds':List PV):Prop:=
 ∀(w:World) (M:Nat->Prop) (b c:Nat) (T U:TypeId) (us vs:List Value),qR w M->M b->M c->b≠c->w.heap[b]?=some (.cells us.toArray T (0,0))->w.heap[c]?=some (.cells vs.toArray U (0,0))->aR w M dm cs us->aR w M dm ds vs->
  Calls P f #[.pointer (some ⟨b,0,none⟩),.pointer (some ⟨c,0,none⟩)] w fun e w'=>∃(us' vs':List Value) (T' U':TypeId),e= .returned (.tuple #[])/\w'.heap[b]?=some (.cells us'.toArray T' (0,0))/\
   w'.heap[c]?=some (.cells vs'.toArray U' (0,0))/\aR w' M dm cs' us'/\aR w' M dm ds' vs'/\Wu b c w w'
def Ud(P:Program)(f g:FuncId)(args:List PV)(e k:Nat)(es':List (List PV)):Prop:=
 ∀(w:World) (X:Nat->Prop) (_:qR w X) (vs:List Value),aR w X dm args vs->
  Calls P f vs.toArray w fun en w1=>∃v,en= .returned v/\Calls P g #[v] w1 fun en w'=>∃u,en= .returned u/\Ft w' (Mv u X) e k u es'/\(∀b,dS u=some b->w.heap.size<=b)/\Fr none w w'
def Cy(P:Program)(f:FuncId)(m:Model):Prop:=
 match m.rk with
 | .no=>True
 | .Wh e k=>∀es args r es',m.rm es args=some (r,es')->Ym P f e k es args r es'
 | .Lq e k=>∀es args r es',m.rm es args=some (r,es')->Yn P f e k es args es'
 | .fre e k=>∀args r es',m.rm [] args=some (r,es')->Uf P f args e k es'
def Wr(P:Program)(f:FuncId)(m:Model):Prop:=
 Enters P f/\(m.fresh=false->∀cs args r cs',m.m cs args=some (r,cs')->wX P f m.pos m.recv cs args r cs')/\(m.fresh=true->∀args r cs,m.m [] args=some (r,cs)->Ue P f args cs)/\Cy P f m/\(m.ro=true->∀cs args r cs',m.m cs args=some (r,cs')->cs'=cs)
def nW(P:Program)(Γ:nk):Prop:=∀f m,Γ f=some m->Wr P f m
section
variable {P : Program} {E : En} {S : St} {a : Act} {w : World} {L : Nat -> Value}
theorem wK{M:Nat->Prop}{G:Gh}{v:Value}{x:PV}(h:vZ v=some x):aW w M G x v:=by
 unfold vZ at h;split at h<;>first|(injection h with h;subst h;first|exact .bool _|exact .int _ _|exact .str _|exact .jj|exact .dx|exact .sf|exact .any _)|cases h
theorem Rel.eM(h:Rel E S a w L){x:Operand}{y:bg}(hc:bb x=some y):aW w (bp E S L) (S.gh L) (y.val S) (a.eval x):=by
 cases x with
 |tmp t=>simp only[bb,Qf]at hc;subst hc;exact h.env t
 |const v=>
  simp only[bb,Qb]at hc;obtain⟨p,hp,rfl⟩:=hc;exact wK hp
 |global g=>simp[bb]at hc
 |func f=>
  simp only[bb,Qf]at hc;subst hc;exact .cz f [] [] rfl (fun i x v hx _=>by simp at hx)
theorem Rel.cQ(h:Rel E S a w L):∀{xs:List Operand} {ys:List bg},xs.mapM bb=some ys->aR w (bp E S L) (S.gh L) (ys.map (·.val S)) (xs.map a.eval)
 |[],ys,hc=>by simp at hc;subst hc;exact .nil
 |x::xs,ys,hc=>by
  simp only[Qq74,Qd,Qc,Option.pure_def,Qf]at hc;obtain⟨y,hy,zs,hzs,rfl⟩:=hc;exact .cons (h.eM hy) (h.cQ hzs)
section
variable {M : Nat -> Prop} {G : Gh} {v : Value}
theorem aW.nL{b:Bool}(h:aW w M G (.bool b) v):v= .bool b:=by cases h;rfl
theorem aW.eC{k:IntKind}{n:Int}(h:aW w M G (.int k n) v):v= .int k n:=by cases h;rfl
theorem aW.dH{s:ByteArray}(h:aW w M G (.str s) v):v= .string s:=by cases h;rfl
theorem aW.oX(h:aW w M G .dx v):v= .slice none 0 0:=by cases h;rfl
theorem aW.Np(h:aW w M G (.iJ true) v):v= .nilIface:=by cases h;rfl
theorem aW.Xq(h:aW w M G (.iJ false) v):∃T u,v= .iface T u:=by cases h;exact⟨_,_,rfl⟩
theorem aW.RO{T:TypeId}{x:PV}(h:aW w M G (.gA T x) v):∃u,v= .iface T u/\x.plain=true/\aW w M dm x u:=by cases h with|gA _ _ u hp h=>exact⟨u,rfl,hp,h⟩
theorem aW.plain{w':World}{M M':Nat->Prop}{G G':Gh}{y:PV}{v:Value}(hc:y.plain=true)(h:aW w M G y v):aW w' M' G' y v:=by
 induction h generalizing G' with
 |gA T x v hp _ ih=>exact .gA T x v hp (ih hp)
 |_=>first|(simp[PV.plain]at hc;done)|constructor
theorem aW.UA(h:aW w M G .undef v):v=Go.undef:=by cases h;rfl
theorem aW.AP{cs:List PV}(h:aW w M G (.cX cs) v):∃vs:List Value,v= .tuple vs.toArray/\aR w M G cs vs:=by cases h with|cX _ vs hl h=>exact⟨vs,rfl,hl,h⟩
theorem aW.oy{cs:List PV}(h:aW w M G (.agg cs) v):∃vs:List Value,v= .agg vs.toArray/\aR w M G cs vs:=by cases h with|agg _ vs hl h=>exact⟨vs,rfl,hl,h⟩
theorem aW.Kg{f:FuncId}{cs:List PV}(h:aW w M G (.iM f cs) v):∃vs:List Value,v= .func (.func f) vs.toArray #[]/\aR w M G cs vs:=by cases h with|iM _ _ vs hl h=>exact⟨vs,rfl,hl,h⟩
theorem aW.yh{f:FuncId}{cs:List PV}(h:aW w M G (.cz f cs) v):∃vs:List Value,v= .func (.func f) #[] vs.toArray/\aR w M G cs vs:=by cases h with|cz _ _ vs hl h=>exact⟨vs,rfl,hl,h⟩
theorem aW.EV{cs:List PV}(h:aW w M G (.ref cs) v):∃(ad:Addr) (vs:List Value),v= .pointer (some ad)/\aR w M dm cs vs/\∀(i:Nat) (u:Value),vs[i]?=some u->w.cell? (ad.add i)=some u/\¬M ad.block:=by
 cases h with|ref _ ad vs hl hc h=>exact⟨ad,vs,rfl,⟨hl,h⟩,hc⟩
theorem aW.mM{id ar off:Nat}(h:aW w M G (.ptr id ar off) v)(hv:G.V id=ar):id<G.N/\v= .pointer ((dS (G.L id)).map fun b=>⟨b,off,none⟩):=by
 cases h with|ptr _ _ _ ad hN hV h=>exact⟨hN,by rw[h hv.symm]⟩
theorem aW.Hc{id ar k i off:Nat}(h:aW w M G (.ed id ar k i off) v)(hv:G.V id=ar):id<G.N/\v= .pointer ((dS (G.L id)).map fun b=>⟨b,i*k+off,none⟩):=by
 cases h with|ed _ _ _ _ _ ad hN hV h=>exact⟨hN,by rw[h hv.symm]⟩
theorem aW.vF{id ar k lo n:Nat}(h:aW w M G (.view id ar k lo n) v)(hv:G.V id=ar):id<G.N/\∃a c,v= .slice a n c/\O6 (G.L id) k lo n a c:=by
 cases h with|view _ _ _ _ _ ad c hN hV h=>exact⟨hN,ad,c,rfl,h hv.symm⟩
theorem aW.kR{id ar:Nat}(h:aW w M G (.own id ar) v)(hv:G.V id=ar):id<G.N/\v=G.L id:=by
 cases h with|own _ _ ad n c hN hV h=>exact⟨hN,h hv.symm⟩
theorem aW.yo{es:List (List PV)}(h:aW w M G (.sl es) v):(v= .slice none 0 0/\es=[])\/∃(ad:Addr) (c k:Nat) (vs:List Value),v= .slice (some ad) es.length c/\(∀e∈es,e.length=k)/\aR w M dm es.flatten vs/\
  (∀(i:Nat) (u:Value),vs[i]?=some u->w.cell? (ad.add i)=some u/\¬M ad.block)/\es.length<=c/\c<=maxLen:=by
 cases h with
 |sl _ ad c k vs hk hl hc h hn hm=>exact .inr ⟨ad,c,k,vs,rfl,hk,⟨hl,h⟩,hc,hn,hm⟩
 |slnil=>exact .inl ⟨rfl,rfl⟩
end
def St.ei(S:St)(wr:Option (Nat×fc)):St:={S with H:=match wr with|some (id,o)=>bS S.H id o|none=>S.H}
def Good(P:Program)(E:En)(S:St)(a:Act)(w:World)(o:Oper)(x:PV)(wr:Option (Nat×fc)):Prop:=
 ∃nx w' L' v,(execOp a.eval o).run P w= .ok nx w'/\(nx= .value v\/(nx= .skip/\v=undef))/\aW w' (bp E (S.ei wr) L') ((S.ei wr).gh L') x v/\Rel E (S.ei wr) a w' L'
theorem Good.pure{o:Oper}{x:PV}{v:Value}(h:Rel E S a w L)(hr:(execOp a.eval o).run P w= .ok (.value v) w)(hx:aW w (bp E S L) (S.gh L) x v):Good P E S a w o x none:=
 ⟨_,w,L,v,hr,.inl rfl,hx,h⟩
theorem Rel.SW(h:Rel E S a w L){d:Option Nat}{x:PV}{v:Value}(hd:∀t,d=some t->E.can t)(hx:aW w (bp E S L) (S.gh L) x v):Rel E (S.cZ d x none) (a.put d v) w L:=by
 cases d with
 |none=>exact h
 |some t=>exact h.put (hd t rfl) hx
def Fv(o:Oper):Prop:=∀c,o.op≠ .defer c
theorem Good.wp{o:Oper}{x:PV}{wr:Option (Nat×fc)}(h:Good P E S a w o x wr)(hnd:Fv o)(hd:∀t,o.dst=some t->E.can t){K:Act->World->Prop}{Q:Exit->Act->World->Prop}
  (hK:∀a' w' L',Rel E (S.cZ o.dst x wr) a' w' L'->K a' w'):o.wpIn (WF E.rd) 0 P a w K Q:=by
 obtain⟨nx,w',L',v,hr,hn,hx,h'⟩:=h;have:=hK _ _ _ (show Rel E (S.cZ o.dst x wr) (a.put o.dst v) w' L' from h'.SW hd hx)
 unfold Oper.wpIn;rw[Oper.semAt_eq _ _ _ hnd,hr];rcases hn with rfl|⟨rfl,rfl⟩<;>exact⟨fun _ _=>trivial,this⟩
theorem Pz{t:TypeId}{ad:Addr}{v:Value}(ht:pT P t=some none)(h:w.cell? ad=some v):(loadVar t ad).run P w= .ok v w:=by
 unfold pT at ht;split at ht
 ·simp at ht
 ·simp at ht
 ·rename_i d _ hu hd
  have:(isAgg t).run P w= .ok false w:=by
   unfold isAgg;rw[Sem.run_bind,run_underlying hd w];cases d<;>simp_all
  simp only[loadVar,Sem.run_bind,this,Result.andThen_ok];simp[load,Sem.run,h]
 ·cases ht
theorem Gd{t:TypeId}{ad:Addr}{n:Nat}{vs:List Value}(ht:pT P t=some (some n))(hl:vs.length=n)(h:∀(i:Nat) (v:Value),vs[i]?=some v->w.cell? (ad.add i)=some v):
  (loadVar t ad).run P w= .ok (.agg vs.toArray) w:=by
 have hi:∃i,P.info? t=some i/\i.size=n:=by
  unfold pT at ht;split at ht
  ·simpa using ht
  ·simpa using ht
  ·simp at ht
  ·cases ht
 obtain⟨i,hi,hs⟩:=hi
 have:(isAgg t).run P w= .ok true w:=by
  unfold pT at ht;unfold isAgg;split at ht
  ·rename_i hu;rw[Sem.run_bind,run_underlying hu w];simp
  ·rename_i hu;rw[Sem.run_bind,run_underlying hu w];simp
  ·simp at ht
  ·cases ht
 have hl2:=run_loadCells_list (P:=P) w ad vs h;rw[hl]at hl2;simp only[loadVar,Sem.run_bind,this,Result.andThen_ok,sizeOf,typeInfo];simp[program,Sem.run,hi,hs,hl2]
theorem Fa{M:Nat->Prop}{G:Gh}{t:TypeId}{n:Option Nat}{ad:Addr}{cs:List PV}{vs:List Value}{x:PV}(ht:pT P t=some n)(hr:aR w M G cs vs)
  (hc:∀(i:Nat) (v:Value),vs[i]?=some v->w.cell? (ad.add i)=some v) (hx:tT n cs=some x):∃v,(loadVar t ad).run P w= .ok v w/\aW w M G x v:=by
 cases n with
 |none=>
  cases cs with
  |nil=>simp[tT]at hx
  |cons y ys=>
   simp only[tT,Qf]at hx;subst hx;obtain⟨v,us,rfl,h1,_⟩:=hr.cons_inv;exact⟨v,Pz ht (by simpa[Addr.add]using hc 0 v (by simp)),h1⟩
 |some n=>
  simp only[tT]at hx;split at hx
  ·injection hx with hx
   subst hx;rename_i hn;refine⟨.agg (vs.take n).toArray,Gd ht (by simp[hr.1];omega) (fun i v hv=> ?_),?_⟩
   ·rw[Qq67]at hv;split at hv
    ·exact hc i v hv
    ·cases hv
   ·have:=hr.take n;exact .agg _ _ this.1 this.2
  ·cases hx
theorem Rel.nf(h:Rel E S a w L){id:Nat}{cs:List PV}(hid:id<S.N)(hc:(S.H id).c= .box cs):
  ∃(b:Nat) (cur:Array Value) (T:TypeId),L id= .pointer (some ⟨b,0,none⟩)/\w.heap[b]?=some (.cells cur T (0,0))/\aR w (bp E S L) (S.gh L) cs cur.toList/\(E.rb=some b\/E.w0.heap.size<=b):=by
 have:=h.obj id hid;rw[hc]at this;obtain⟨b,cur,T,h1,h2,h3,h4⟩:=this;exact⟨b,cur,T,h1,h2,h4,h3⟩
theorem o5{b:Nat}{cur:Array Value}{T:TypeId}(h:w.heap[b]?=some (.cells cur T (0,0))){i:Nat}{v:Value}(hv:cur.toList[i]?=some v):w.cell? ⟨b,i,none⟩=some v:=by
 simp[World.cell?,h];simpa using hv
theorem Rel.iI(h:Rel E S a w L){id:Nat}{e k:Nat}{es:List (List PV)}(hid:id<S.N)(hc:(S.H id).c= .row e k es):
  ∃(vs:List Value),w.ownsRow (gd E (L id)) e k (L id) es.length vs/\(∀x∈es,x.length=k)/\aR w (bp E S L) (S.gh L) es.flatten vs:=by
 have:=h.obj id hid;rw[hc]at this;exact this
theorem rL{α:Type}:∀(es:List (List α)) (k i:Nat) (e:List α),(∀x∈es,x.length=k)->es[i]?=some e->∀j,j<k->es.flatten[i*k+j]?=e[j]?
 |[],_,_,_,_,h,_,_=>by simp at h
 |x::xs,k,i,e,hk,h,j,hj=>by
  have hx:x.length=k:=hk x (by simp)
  cases i with
  |zero=>
   simp at h;subst h;simp only[List.flatten_cons,Nat.zero_mul,Nat.zero_add];rw[List.getElem?_append_left (by omega)]
  |succ i=>
   simp only[List.getElem?_cons_succ]at h;have:=rL xs k i e (fun y hy=>hk y (by simp[hy])) h j hj
   simp only[List.flatten_cons];have e1:(i+1)*k=i*k+k:=by rw[Qq72];omega
   rw[List.getElem?_append_right (by omega),<-this]
   congr 1;omega
theorem lO{α:Type}(es:List (List α))(k:Nat)(hk:∀x∈es,x.length=k):es.flatten.length=es.length*k:=by
 induction es with
 |nil=>simp
 |cons x xs ih=>
  have hx:x.length=k:=hk x (by simp)
  have:=ih (fun y hy=>hk y (by simp[hy]))
  simp only[List.flatten_cons,QB,QE,hx,this,Qq72];omega
end
end
section
open Go.RowKit
section
variable {P : Program} {E : En} {S : St} {a : Act} {w : World} {L : Nat -> Value} {o : Oper} {x : PV} {wr : Option (Nat × fc)} {Γ : nk} {nid : Nat}
theorem bW{p q:PV×Option (Nat×fc)}(h:some p=some q):p.1=q.1/\p.2=q.2:=by injection h with h;subst h;exact⟨rfl,rfl⟩
theorem YG(h:Rel E S a w L){y:Operand}{y':bg}(ho:o.op= .move y\/o.op= .assign y)(hy:bb y=some y'):Good P E S a w o (y'.val S) none:=by
 refine Good.pure h ?_ (h.eM hy);rcases ho with ho|ho<;>simp[execOp,ho]
theorem ab9(h:Rel E S a w L){c y z:Operand}{c' y' z':bg}(ho:o.op= .pick c y z)(hc:bb c=some c')(hy:bb y=some y')(hz:bb z=some z')
  (he:exec Γ nid S (.pick c' y' z')=some (x,wr)):Good P E S a w o x wr:=by
 have rc:=h.eM hc;simp only[exec]at he;split at he
 ·rename_i e;obtain⟨rfl,rfl⟩:=bW he;rw[e]at rc;have hv:=rc.nL;exact Good.pure (v:=a.eval y) h (by simp[execOp,ho,asBool,hv]) (h.eM hy)
 ·rename_i e;obtain⟨rfl,rfl⟩:=bW he;rw[e]at rc;have hv:=rc.nL;exact Good.pure (v:=a.eval z) h (by simp[execOp,ho,asBool,hv]) (h.eM hz)
 ·cases he
theorem adF(h:Rel E S a w L){y:Operand}{y':bg}{t:TypeId}(ho:o.op= .unOp .not t y)(hy:bb y=some y')(he:exec Γ nid S (.not y')=some (x,wr)):Good P E S a w o x wr:=by
 have r:=h.eM hy;simp only[exec]at he;split at he
 ·rename_i b e;obtain⟨rfl,rfl⟩:=bW he;rw[e]at r;have hv:=r.nL;exact Good.pure (v:= .bool !b) h (by simp[execOp,ho,Op.unary,hv]) (.bool _)
 ·cases he
theorem ace(h:Rel E S a w L){y:Operand}{y':bg}{s t:TypeId}{k k0:IntKind}(ho:o.op= .convert s t y)(hs:P.underlying s=some (.int k0))(ht:P.underlying t=some (.int k))(hy:bb y=some y')
  (he:exec Γ nid S (.conv k y')=some (x,wr)):Good P E S a w o x wr:=by
 have r:=h.eM hy;simp only[exec]at he;split at he
 ·rename_i k1 n e;obtain⟨rfl,rfl⟩:=bW he;rw[e]at r;have hv:=r.eC;exact Good.pure (v:= .int k (k.wrap n)) h (by simp[execOp,ho,convert,run_underlying hs,run_underlying ht,Conv.intToInt,hv]) (.int _ _)
 ·cases he
theorem acd(h:Rel E S a w L){y:Operand}{y':bg}{i:Nat}(ho:o.op= .extract y i)(hy:bb y=some y')(he:exec Γ nid S (.AA i y')=some (x,wr)):Good P E S a w o x wr:=by
 have r:=h.eM hy;simp only[exec]at he;split at he
 ·rename_i cs e;simp only[Qb]at he;obtain⟨z,hz,he⟩:=he;injection he with h1 h2
  subst h1 h2;rw[e]at r;obtain⟨vs,hv,hr⟩:=r.AP;obtain⟨u,hu,hx⟩:=hr.get hz;exact Good.pure (v:=u) h (by simp[execOp,ho,Instr.extract,hv,hu]) hx
 ·cases he
theorem adJ(h:Rel E S a w L){f:FuncId}{first caps:Array Operand}{cs:List bg}(ho:o.op= .makeFunc (.func f) first caps)(h0:first.size=0)(hc:caps.toList.mapM bb=some cs)
  (he:exec Γ nid S (.Gb f cs)=some (x,wr)):Good P E S a w o x wr:=by
 simp only[exec]at he;obtain⟨rfl,rfl⟩:=bW he;have r:=h.cQ hc;have h1:first=#[]:=Array.eq_empty_of_size_eq_zero h0
 subst h1;refine Good.pure (v:= .func (.func f) #[] (caps.toList.map a.eval).toArray) h ?_ (.cz f _ _ r.1 r.2);have e:caps.map a.eval=(caps.toList.map a.eval).toArray:=by rw[<-Array.toList_map,Array.toArray_toList]
 simp[execOp,ho,Instr.makeFunc,e]
theorem adK(h:Rel E S a w L){f:FuncId}{first caps:Array Operand}{cs:List bg}(ho:o.op= .makeFunc (.func f) first caps)(h0:caps.size=0)(hc:first.toList.mapM bb=some cs)
  (he:exec Γ nid S (.Gc f cs)=some (x,wr)):Good P E S a w o x wr:=by
 simp only[exec]at he;obtain⟨rfl,rfl⟩:=bW he;have r:=h.cQ hc;have h1:caps=#[]:=Array.eq_empty_of_size_eq_zero h0;subst h1;refine Good.pure (v:= .func (.func f) (first.toList.map a.eval).toArray #[]) h ?_ (.iM f _ _ r.1 r.2)
 have e:first.map a.eval=(first.toList.map a.eval).toArray:=by rw[<-Array.toList_map,Array.toArray_toList]
 simp[execOp,ho,Instr.makeFunc,e]
theorem toList_eq_iff(a b:ByteArray):(a.toList==b.toList)=decide (a=b):=by
 have hl:∀c:ByteArray,c.toList=c.data.toList:=fun c=>Lib.toList_data c
 rw[hl,hl,QW];simp only[beq_iff_eq,Qi];constructor
 ·intro h;have:a.data=b.data:=Array.toList_inj.1 h;cases a;cases b;simp_all
 ·rintro rfl;rfl
theorem SE{M:Nat->Prop}{G:Gh}{op:BinOp}{t:TypeId}{k:IntKind}{p q:Int}{r:PV}(hb:Ey op k p q=some r)(hs1:op≠ .shl)(hs2:op≠ .shr):
  ∃v,(binOp op t (.int k p) (.int k q)).run P w= .ok v w/\aW w M G r v:=by
 cases op<;>simp only[Ey]at hb
 case shl=>exact absurd rfl hs1
 case shr=>exact absurd rfl hs2
 case quo=>
  split at hb
  ·cases hb
  ·rename_i hq;injection hb with hb;subst hb;exact⟨.int k (k.wrap (p.tdiv q)),by simp[binOp,Op.intDiv,hq],.int _ _⟩
 case rem=>
  split at hb
  ·cases hb
  ·rename_i hq;injection hb with hb;subst hb;exact⟨.int k (p.tmod q),by simp[binOp,Op.intDiv,hq],.int _ _⟩
 case andNot=>injection hb with hb;subst hb;exact⟨.int k (k.wrap ((BitVec.ofInt k.bits p&&& ~~~ BitVec.ofInt k.bits q).toNat)),by simp only[binOp,ne_eq,not_true_eq_false,Qu,Op.intBits,Sem.run_pure],.int _ _⟩
 case and=>injection hb with hb;subst hb;exact⟨_,by simp only[binOp,ne_eq,not_true_eq_false,Qu,Op.intBits];rfl,.int _ _⟩
 case or=>injection hb with hb;subst hb;exact⟨_,by simp only[binOp,ne_eq,not_true_eq_false,Qu,Op.intBits];rfl,.int _ _⟩
 case xor=>injection hb with hb;subst hb;exact⟨_,by simp only[binOp,ne_eq,not_true_eq_false,Qu,Op.intBits];rfl,.int _ _⟩
 all_goals (injection hb with hb;subst hb)
 all_goals exact⟨_,by simp only[binOp,ne_eq,not_true_eq_false,Qu,Op.intArith,Op.intCmp];rfl,by first|exact .int _ _|exact .bool _⟩
theorem YK(h:Rel E S a w L){y z:Operand}{y' z':bg}{op:BinOp}{t t2:TypeId}(ho:o.op= .binOp op t y z t2)(hy:bb y=some y')(hz:bb z=some z')
  (he:exec Γ nid S (.bin op y' z')=some (x,wr)):Good P E S a w o x wr:=by
 have ry:=h.eM hy;have rz:=h.eM hz;simp only[exec,Qb]at he;obtain⟨r,hb,he⟩:=he;injection he with h1 h2
 subst h1 h2;unfold Fo at hb;split at hb
 ·rename_i k p k' q e1 e2;rw[e1]at ry;rw[e2]at rz;have hv:=ry.eC;have hu:=rz.eC;have hg:∀op,(eqGuard op t y z (.int k p) (.int k' q)).run P w= .ok () w:=by intro op;cases op<;>simp[eqGuard]
  split at hb
  ·split at hb
   ·cases hb
   ·rename_i hq;injection hb with hb
    subst hb;exact Good.pure (v:=_) h (by simp[execOp,ho,hv,hu,hg,binOp,Op.shift,hq]) (.int _ _)
  ·split at hb
   ·cases hb
   ·rename_i hq;injection hb with hb
    subst hb;exact Good.pure (v:=_) h (by simp[execOp,ho,hv,hu,hg,binOp,Op.shift,hq]) (.int _ _)
  ·rename_i hs1 hs2;split at hb
   ·rename_i hk;subst hk;obtain⟨v,hrun,hx⟩:=SE (P:=P) (w:=w) (t:=t) (M:=bp E S L) (G:=S.gh L) hb hs1 hs2;exact Good.pure (v:=v) h (by simp[execOp,ho,hv,hu,hg,hrun]) hx
   ·cases hb
 ·rename_i p q e1 e2;rw[e1]at ry;rw[e2]at rz;have hv:=ry.dH;have hu:=rz.dH;have hg:∀op,(eqGuard op t y z (.string p) (.string q)).run P w= .ok () w:=by intro op;cases op<;>simp[eqGuard]
  cases op<;>simp only[I8]at hb<;>
   first
   |(injection hb with hb;subst hb;exact Good.pure (v:=_) h (by first|(simp only[execOp,ho,hv,hu,Sem.run_bind,hg,binOp,Op.stringOp,toList_eq_iff,Sem.run_pure,Result.andThen_ok];done)|(simp only[execOp,ho,hv,hu,Sem.run_bind,hg,binOp,Op.stringOp,toList_eq_iff,Sem.run_pure,Result.andThen_ok];rfl)) (.bool _))
   |cases hb
 ·cases hb
end
end
section
open Go.RowKit
section
variable {P : Program} {E : En} {S : St} {a : Act} {w : World} {L : Nat -> Value} {o : Oper} {x : PV} {wr : Option (Nat × fc)} {Γ : nk} {nid : Nat}
theorem run_load{t:TypeId}{y:Operand}{ad:Addr}{v:Value}(ho:o.op= .load t y)(hv:a.eval y= .pointer (some ad))(hr:(loadVar t ad).run P w= .ok v w):(execOp a.eval o).run P w= .ok (.value v) w:=by
 simp[execOp,ho,hv,Instr.loadAt,Instr.sureAddr,hr]
theorem add_mid(b o j:Nat):(⟨b,o,none⟩:Addr).add j=⟨b,o+j,none⟩:=Addr.add_mid b o j
theorem fF{α:Type}{l:List α}{n i:Nat}{v:α}(h:(l.drop n)[i]?=some v):l[n+i]?=some v:=by rwa [List.getElem?_drop]at h
theorem aca(h:Rel E S a w L){y:Operand}{y':bg}{t:TypeId}{n:Option Nat}(ho:o.op= .load t y)(ht:pT P t=some n)(hy:bb y=some y')(he:exec Γ nid S (.load n y')=some (x,wr)):Good P E S a w o x wr:=by
 have r:=h.eM hy;simp only[exec]at he;split at he
 ·rename_i id ar off e;rw[e]at r;split at he
  ·rename_i hver;split at he
   ·rename_i cs hc;simp only[Qb]at he;obtain⟨z,hz,he⟩:=he;injection he with h1 h2
    subst h1 h2;obtain⟨hN,hv⟩:=r.mM (show(S.gh L).V id=ar from hver)
    obtain⟨b,cur,T,hL,hh,hr,_⟩:=h.nf hN hc;rw[show(S.gh L).L id=L id from rfl,hL]at hv
    simp only[dS,Qe]at hv;obtain⟨v,hrun,hx⟩:=Fa (P:=P) (ad:=⟨b,off,none⟩) ht (hr.drop off) (fun i u hu=>by rw[add_mid];exact o5 hh (fF hu)) hz
    exact Good.pure h (run_load ho hv hrun) hx
   ·cases he
  ·cases he
 ·rename_i id ar k i off e;rw[e]at r;split at he
  ·rename_i hver;split at he
   ·rename_i e0 k' es hc;split at he
    ·rename_i hk;subst hk;split at he
     ·rename_i el hel;simp only[Qb]at he;obtain⟨z,hz,he⟩:=he;injection he with h1 h2
      subst h1 h2;obtain⟨hN,hv⟩:=r.Hc (show(S.gh L).V id=ar from hver)
      obtain⟨vs,hown,hk,hr⟩:=h.iI hN hc;rw[show(S.gh L).L id=L id from rfl]at hv
      have hlen:el.length=k:=hk el (Q7 hel)
      have hsub:aR w (bp E S L) (S.gh L) el ((vs.drop (i*k)).take k):=by
       have h1:=(hr.drop (i*k)).take k
       have h2:(es.flatten.drop (i*k)).take k=el:=by
        apply List.ext_getElem?;intro j;rw[Qq67];split
        ·rename_i hj;rw[List.getElem?_drop,rL es k i el hk hel j hj]
        ·rw[Qq71 (by omega)]
       rw[h2]at h1;exact h1
      rcases hown.2 with⟨hL,h0⟩|⟨g,cap,cur,hL,hb1,hh,_,_,_,htake⟩
      ·have:es=[]:=Qq66 h0;subst this;simp at hel
      ·rw[hL]at hv;simp only[dS,Qe]at hv
       obtain⟨v,hrun,hx⟩:=Fa (P:=P) (ad:=⟨g,i*k+off,none⟩) ht (hsub.drop off) (fun j u hu=>by
        rw[add_mid];refine o5 hh ?_;have h1:=fF hu;rw[Qq67]at h1;split at h1
        ·rw[List.getElem?_drop,<-htake,Qq67]at h1;split at h1
         ·rw[<-h1];congr 1;omega
         ·cases h1
        ·cases h1) hz
       exact Good.pure h (run_load ho hv hrun) hx
     ·cases he
    ·cases he
   ·cases he
  ·cases he
 ·rename_i cs e;rw[e]at r;simp only[Qb]at he;obtain⟨z,hz,he⟩:=he;injection he with h1 h2
  subst h1 h2;obtain⟨ad,vs,hv,hr,hc⟩:=r.EV;obtain⟨v,hrun,hx⟩:=Fa (P:=P) (ad:=ad) ht hr (fun i u hu=>(hc i u hu).1) hz
  exact Good.pure h (run_load ho hv hrun) (hx.mono (dj.of fun _ hm=>hm) (dm.le _))
 ·cases he
theorem add_add(ad:Addr)(i j:Nat):(ad.add i).add j=ad.add (i+j):=by
 unfold Addr.add
 by_cases hi:i=0<;>by_cases hj:j=0<;>simp[hi,hj,Nat.add_assoc]
theorem MV{M:Nat->Prop}{G:Gh}{cs:List PV}{ad:Addr}{vs:List Value}(hr:aR w M dm cs vs)(hc:∀(i:Nat) (u:Value),vs[i]?=some u->w.cell? (ad.add i)=some u/\¬M ad.block)(n:Nat):
  aW w M G (.ref (cs.drop n)) (.pointer (some (ad.add n))):=by
 have h1:=hr.drop n;exact .ref _ _ _ h1.1 (fun i u hu=>by rw[add_add,qP];exact hc _ u (fF hu)) h1.2
theorem Ju{fd:Field}{i:TypeInfo}(hi:P.info? fd.type=some i)(h0:i.size≠0)(ad:Addr):(fieldPlace ad fd).run P w= .ok (ad.add fd.offset) w:=by
 simp[fieldPlace,sizeOf,typeInfo,hi,h0]
theorem Dq{s:TypeId}{y:Operand}{f:Nat}{fields:Array Field}{fd:Field}{i:TypeInfo}{ad:Addr}(ho:o.op= .fieldAddr s y f)(hs:P.underlying s=some (.struct fields))(hf:fields[f]?=some fd)
  (hi:P.info? fd.type=some i) (h0:i.size≠0) (hv:a.eval y= .pointer (some ad)):(execOp a.eval o).run P w= .ok (.value (.pointer (some (ad.add fd.offset)))) w:=by
 simp[execOp,ho,Instr.fieldAt,run_underlying hs,hf,hv,Instr.sureAddr,Ju hi h0]
theorem aW.KJ{M:Nat->Prop}{G:Gh}{id ar off:Nat}{ad:Addr}(n:Nat)(h:aW w M G (.ptr id ar off) (.pointer (some ad))):aW w M G (.ptr id ar (off+n)) (.pointer (some (ad.add n))):=by
 cases h with
 |ptr _ _ _ _ hN hV h=>
  refine .ptr _ _ _ _ hN hV (fun e=> ?_)
  have:=h e
  cases hb:dS (G.L id)with
  |none=>rw[hb]at this;cases this
  |some b=>
   rw[hb]at this;simp only[Qe,Qf]at this ⊢;rw[this,add_mid]
theorem aW.TB{M:Nat->Prop}{G:Gh}{id ar k i off:Nat}{ad:Addr}(n:Nat)(h:aW w M G (.ed id ar k i off) (.pointer (some ad))):aW w M G (.ed id ar k i (off+n)) (.pointer (some (ad.add n))):=by
 cases h with
 |ed _ _ _ _ _ _ hN hV h=>
  refine .ed _ _ _ _ _ _ hN hV (fun e=> ?_)
  have:=h e
  cases hb:dS (G.L id)with
  |none=>rw[hb]at this;cases this
  |some b=>
   rw[hb]at this;simp only[Qe,Qf]at this ⊢;rw[this,add_mid,Nat.add_assoc]
theorem Rel.nD(h:Rel E S a w L){id ar off:Nat}{v:Value}{cs:List PV}(r:aW w (bp E S L) (S.gh L) (.ptr id ar off) v)(hver:(S.H id).ar=ar)(hc:(S.H id).c= .box cs):
  ∃b,v= .pointer (some ⟨b,off,none⟩)/\L id= .pointer (some ⟨b,0,none⟩):=by
 obtain⟨hN,hv⟩:=r.mM (show(S.gh L).V id=ar from hver)
 obtain⟨b,cur,T,hL,hh,hr,_⟩:=h.nf hN hc;rw[show(S.gh L).L id=L id from rfl,hL]at hv
 exact⟨b,hv,hL⟩
theorem Rel.VZ(h:Rel E S a w L){id ar k i off:Nat}{v:Value}{e0 k':Nat}{es:List (List PV)}(r:aW w (bp E S L) (S.gh L) (.ed id ar k i off) v)(hver:(S.H id).ar=ar)(hc:(S.H id).c= .row e0 k' es)(hi:i<es.length):
  ∃b n cap,v= .pointer (some ⟨b,i*k+off,none⟩)/\L id= .slice (some ⟨b,0,none⟩) n cap:=by
 obtain⟨hN,hv⟩:=r.Hc (show(S.gh L).V id=ar from hver)
 obtain⟨vs,hown,hk,hr⟩:=h.iI hN hc;rcases hown.2 with⟨hL,h0⟩|⟨g,cap,cur,hL,hb1,hh,_⟩
 ·omega
 ·rw[show(S.gh L).L id=L id from rfl,hL]at hv
  exact⟨g,_,cap,hv,hL⟩
theorem aab(h:Rel E S a w L){s:TypeId}{y:Operand}{y':bg}{f:Nat}{fields:Array Field}{fd:Field}{i:TypeInfo}(ho:o.op= .fieldAddr s y f)(hs:P.underlying s=some (.struct fields))(hf:fields[f]?=some fd)
  (hi:P.info? fd.type=some i) (h0:i.size≠0) (hy:bb y=some y') (he:exec Γ nid S (.wH fd.offset y')=some (x,wr)):Good P E S a w o x wr:=by
 have r:=h.eM hy;simp only[exec]at he;split at he
 ·rename_i id ar off e;rw[e]at r;split at he
  ·rename_i hver;split at he
   ·rename_i cs hc;obtain⟨rfl,rfl⟩:=bW he;obtain⟨b,hv,_⟩:=h.nD r hver hc;rw[hv]at r;exact Good.pure h (Dq ho hs hf hi h0 hv) (r.KJ _)
   ·cases he
  ·cases he
 ·rename_i id ar k j off e;rw[e]at r;split at he
  ·rename_i hver;split at he
   ·rename_i hc;split at he
    ·rename_i hj;obtain⟨rfl,rfl⟩:=bW he;obtain⟨b,n,cap,hv,_⟩:=h.VZ r hver hc hj;rw[hv]at r;exact Good.pure h (Dq ho hs hf hi h0 hv) (r.TB _)
    ·cases he
   ·cases he
  ·cases he
 ·rename_i cs e;rw[e]at r;obtain⟨rfl,rfl⟩:=bW he;obtain⟨ad,vs,hv,hr,hc⟩:=r.EV;exact Good.pure h (Dq ho hs hf hi h0 hv) (MV hr hc _)
 ·cases he
theorem Z9(h:Rel E S a w L){y:Operand}{y':bg}(ho:o.op= .nilCheck y)(hy:bb y=some y')(he:exec Γ nid S (.wA y')=some (x,wr)):Good P E S a w o x wr:=by
 have r:=h.eM hy;simp only[exec]at he;split at he
 ·rename_i id ar off e;rw[e]at r;split at he
  ·rename_i hver;split at he
   ·rename_i cs hc;obtain⟨rfl,rfl⟩:=bW he;obtain⟨b,hv,_⟩:=h.nD r hver hc;exact Good.pure (v:=a.eval y) h (by simp[execOp,ho,hv]) r
   ·cases he
  ·cases he
 ·rename_i cs e;rw[e]at r;obtain⟨rfl,rfl⟩:=bW he;obtain⟨ad,vs,hv,hr,hc⟩:=r.EV;exact Good.pure (v:=a.eval y) h (by simp[execOp,ho,hv]) r
 ·rename_i f cs e;rw[e]at r;obtain⟨rfl,rfl⟩:=bW he;obtain⟨vs,hv,hr⟩:=r.yh;exact Good.pure (v:=a.eval y) h (by simp[execOp,ho,hv]) r
 ·cases he
theorem Rel.EJ(h:Rel E S a w L){id k lo n:Nat}{ad:Option Addr}{c:Nat}{e0 k':Nat}{es:List (List PV)}(hN:id<S.N)(hc:(S.H id).c= .row e0 k' es)(hat:O6 (L id) k lo n ad c):lo+n<=es.length:=by
 obtain⟨a0,m0,c0,hl,h1,_⟩:=hat;obtain⟨vs,hown,hk,hr⟩:=h.iI hN hc;rcases hown.2 with⟨hL,h0⟩|⟨g,cap,cur,hL,_⟩
 ·rw[hL]at hl;injection hl with e1 e2 e3;omega
 ·rw[hL]at hl;injection hl with e1 e2 e3;omega
theorem Dp{t e:TypeId}{y z:Operand}{ad:Addr}{n c:Nat}{i:TypeInfo}{k:IntKind}{j:Int}(ho:o.op= .indexAddr t y z)(ht:P.underlying t=some (.slice e))(hi:P.info? e=some i)
  (hv:a.eval y= .slice (some ad) n c) (hz:a.eval z= .int k j) (h0:0<=j) (h1:j<n):(execOp a.eval o).run P w= .ok (.value (.pointer (some (ad.add (j.toNat*i.size))))) w:=by
 simp[execOp,ho,Instr.indexAt,run_underlying ht,hv,hz,asIntOf,sizeOf,typeInfo,hi,h0,h1]
theorem aaa(h:Rel E S a w L){t e:TypeId}{y z:Operand}{y' z':bg}{i:TypeInfo}(ho:o.op= .indexAddr t y z)(ht:P.underlying t=some (.slice e))(hi:P.info? e=some i)(hy:bb y=some y')(hz:bb z=some z')
  (he:exec Γ nid S (.wE i.size y' z')=some (x,wr)):Good P E S a w o x wr:=by
 have r:=h.eM hy;have rz:=h.eM hz;simp only[exec]at he;split at he
 ·rename_i kk j ej;rw[ej]at rz;have hj:=rz.eC;split at he
  ·rename_i es ee;rw[ee]at r;split at he
   ·rename_i hb;split at he
    ·rename_i el hel;split at he
     ·rename_i hlen;obtain⟨rfl,rfl⟩:=bW he;rcases r.yo with⟨_,h0⟩|⟨ad,c,k,vs,hv,hk,hr,hc,_,_⟩
      ·subst h0;simp at hel
      ·have hk':k=i.size:=(hk el (Q7 hel)).symm.trans hlen;subst hk';refine Good.pure h (Dp ho ht hi hv hj hb.1 hb.2) ?_
       have h2:(es.flatten.drop (j.toNat*i.size)).take i.size=el:=by
        apply List.ext_getElem?;intro q;rw[Qq67];split
        ·rename_i hq;rw[List.getElem?_drop,rL es i.size j.toNat el hk hel q hq]
        ·rw[Qq71 (by omega)]
       have h1:=(hr.drop (j.toNat*i.size)).take i.size;rw[h2]at h1;refine .ref _ _ _ h1.1 (fun q u hu=> ?_) h1.2
       rw[Qq67]at hu;split at hu
       ·rw[add_add,qP];exact hc _ u (fF hu)
       ·cases hu
     ·cases he
    ·cases he
   ·cases he
  ·rename_i id ar ee;rw[ee]at r;split at he
   ·rename_i hver;split at he
    ·rename_i e0 k' es hc;split at he
     ·rename_i hb;obtain⟨rfl,rfl⟩:=bW he;obtain⟨hN,hv⟩:=r.kR (show(S.gh L).V id=ar from hver)
      obtain⟨vs,hown,hk,hr⟩:=h.iI hN hc;rcases hown.2 with⟨hL,h0⟩|⟨g,cap,cur,hL,hb1,hh,_⟩
      ·omega
      ·rw[show(S.gh L).L id=L id from rfl,hL]at hv
       refine Good.pure h (Dp ho ht hi hv hj hb.2.1 hb.2.2) ?_;refine .ed _ _ _ _ _ _ hN (Nat.le_of_eq hver.symm) (fun _=> ?_)
       rw[show(S.gh L).L id=L id from rfl,hL]
       simp[dS,add_mid]
     ·cases he
    ·cases he
   ·cases he
  ·rename_i id ar k0 lo m ee;rw[ee]at r;split at he
   ·rename_i hver;split at he
    ·rename_i e0 k' es hc;split at he
     ·rename_i hb;obtain⟨hk1,hk0,hb0,hb1,hb2⟩:=hb;subst hk0;obtain⟨rfl,rfl⟩:=bW he;obtain⟨hN,ad,c,hv,a0,m0,c0,hl,h1,h2,h3,h4⟩:=r.vF (show(S.gh L).V id=ar from hver)
      obtain⟨vs,hown,hk,hr⟩:=h.iI hN hc;have hl:L id= .slice a0 m0 c0:=hl;rcases hown.2 with⟨hL,h0⟩|⟨g,cap,cur,hL,hb1',hh,_⟩
      ·omega
      ·rw[hL]at hl;injection hl with e1 e2 e3
       subst e1 e2 e3;rcases h4 with h4|h4
       ·omega
       ·subst h4;refine Good.pure h (Dp ho ht hi hv hj hb0 hb1) ?_;refine .ed _ _ _ _ _ _ hN (Nat.le_of_eq hver.symm) (fun _=> ?_)
        rw[show(S.gh L).L id=L id from rfl,hL]
        simp[dS,add_mid,Qq72]
     ·cases he
    ·cases he
   ·cases he
  ·cases he
 ·cases he
theorem KC{t e:TypeId}{y z:Operand}{ad:Addr}{n:Nat}{i:TypeInfo}{k:IntKind}{j:Int}(ho:o.op= .indexAddr t y z)(ht:P.underlying t=some (.array n e))(hi:P.info? e=some i)
  (hv:a.eval y= .pointer (some ad)) (hz:a.eval z= .int k j) (h0:0<=j) (h1:j<n):(execOp a.eval o).run P w= .ok (.value (.pointer (some (ad.add (j.toNat*i.size))))) w:=by
 simp[execOp,ho,Instr.indexAt,Instr.sureAddr,run_underlying ht,hv,hz,asIntOf,sizeOf,typeInfo,hi,h0,h1]
theorem aad(h:Rel E S a w L){t e:TypeId}{n:Nat}{y z:Operand}{y' z':bg}{i:TypeInfo}(ho:o.op= .indexAddr t y z)(ht:P.underlying t=some (.array n e))(hi:P.info? e=some i)(hy:bb y=some y')(hz:bb z=some z')
  (he:exec Γ nid S (.wM i.size n y' z')=some (x,wr)):Good P E S a w o x wr:=by
 have r:=h.eM hy;have rz:=h.eM hz;simp only[exec]at he;split at he
 ·rename_i kk j ej;rw[ej]at rz;have hj:=rz.eC;split at he
  ·rename_i hb;split at he
   ·rename_i id ar off e;rw[e]at r;split at he
    ·rename_i hver;split at he
     ·rename_i cs hc;obtain⟨rfl,rfl⟩:=bW he;obtain⟨b,hv,_⟩:=h.nD r hver hc;rw[hv]at r;exact Good.pure h (KC ho ht hi hv hj hb.1 hb.2) (r.KJ _)
     ·cases he
    ·cases he
   ·rename_i cs e;rw[e]at r;obtain⟨rfl,rfl⟩:=bW he;obtain⟨ad,vs,hv,hr,hc⟩:=r.EV;exact Good.pure h (KC ho ht hi hv hj hb.1 hb.2) (MV hr hc _)
   ·cases he
  ·cases he
 ·cases he
theorem ab7(h:Rel E S a w L){t:TypeId}{y z:Operand}{y' z':bg}(ho:o.op= .index t y z)(ht:P.underlying t=some .string)(hy:bb y=some y')(hz:bb z=some z')
  (he:exec Γ nid S (.dY y' z')=some (x,wr)):Good P E S a w o x wr:=by
 have ry:=h.eM hy;have rz:=h.eM hz;simp only[exec]at he;split at he
 ·rename_i s kk n e1 e2;rw[e1]at ry;rw[e2]at rz;have hv:=ry.dH;have hj:=rz.eC;simp only[Qb]at he;obtain⟨b,hb,he⟩:=he;injection he with h1 h2
  subst h1 h2;unfold dY at hb;split at hb
  ·rename_i h0;simp only[Qb]at hb;obtain⟨c,hc,rfl⟩:=hb;exact Good.pure h (by simp[execOp,ho,Instr.index,run_underlying ht,hv,hj,asIntOf,h0,hc]) (.int _ _)
  ·cases hb
 ·cases he
theorem vM{q:PQ}{xs:List bg}(he:exec Γ nid S (.oP q xs)=some (x,wr)):lI q (xs.map (·.val S))=some x/\wr=none:=by
 simp only[exec,Qb]at he;obtain⟨v,hv,he⟩:=he;injection he with h1 h2
 subst h1 h2;exact⟨hv,rfl⟩
theorem ab8(h:Rel E S a w L){t t2:TypeId}{y z:Operand}{y' z':bg}(ho:o.op= .binOp .add t y z t2)(hy:bb y=some y')(hz:bb z=some z')(he:exec Γ nid S (.oP .cy [y',z'])=some (x,wr)):Good P E S a w o x wr:=by
 have ry:=h.eM hy;have rz:=h.eM hz;obtain⟨hv,rfl⟩:=vM he;simp only[QD,QO]at hv;generalize y'.val S=p at ry hv;generalize z'.val S=q at rz hv;unfold lI at hv;split at hv<;>simp only[reduceCtorEq,List.cons.injEq,and_true,and_false]at*<;>try contradiction
 rename_i s1 s2 _ e1;obtain⟨rfl,rfl⟩:=e1;simp only[Qb,cy]at hv;obtain⟨r,hr,rfl⟩:=hv;split at hr
 ·rename_i hs;injection hr with hr
  subst hr;refine Good.pure h (v:= .string (s1++s2)) ?_ (.str _);have hi:IntKind.i64.max=9223372036854775807:=rfl;simp[execOp,ho,eqGuard,binOp,ry.dH,rz.dH,Op.stringOp,hi];omega
 ·cases hr
theorem VR(h:Rel E S a w L){neg:Bool}{t t2:TypeId}{ms:Array (String×TypeId)}{y:Operand}{y':bg}(ho:o.op= .binOp (if neg then .neq else .eql) t y (.const .nilIface) t2)(ht:P.underlying t=some (.interface ms))(hy:bb y=some y')
  (he:exec Γ nid S (.oP (.D7 neg) [y'])=some (x,wr)):Good P E S a w o x wr:=by
 have ry:=h.eM hy;obtain⟨hv,rfl⟩:=vM he;simp only[QD,QO]at hv;generalize y'.val S=p at ry hv;have hc:a.eval (.const .nilIface)= .nilIface:=rfl
 have key0:a.eval y= .nilIface->(execOp a.eval o).run P w= .ok (.value (.bool !neg)) w:=by
  intro h1
  have hq:(Op.equal t .nilIface .nilIface).run P w= .ok true w:=by
   show(Op.equalIn (9999+1) t _ _).run P w=_;rw[Op.equalIn];simp[run_underlying ht]
  cases neg<;>simp only[Qq,Qu,Qt]at ho<;>simp[execOp,ho,h1,hc,eqGuard,binOp,hq]
 have key1:∀(T:TypeId) (u:Value),a.eval y= .iface T u->(execOp a.eval o).run P w= .ok (.value (.bool neg)) w:=by
  intro T u h1
  have hq:(Op.equal t (.iface T u) .nilIface).run P w= .ok false w:=by
   show(Op.equalIn (9999+1) t _ _).run P w=_;rw[Op.equalIn];simp[run_underlying ht]
  cases neg<;>simp only[Qq,Qu,Qt]at ho<;>simp[execOp,ho,h1,hc,eqGuard,binOp,hq]
 unfold lI at hv;split at hv<;>simp only[reduceCtorEq,PQ.D7.injEq,List.cons.injEq,and_true,and_false]at*<;>try contradiction
 ·rename_i T u e0 e1;subst e0 e1;injection hv with hv
  subst hv;obtain⟨u',hu⟩:=ry.RO;exact Good.pure h (key1 _ _ hu.1) (.bool _)
 ·rename_i b e0 e1;subst e0 e1;injection hv with hv
  subst hv
  cases b with
  |true=>
   rw[Bool.xor_true];exact Good.pure h (key0 ry.Np) (.bool _)
  |false=>
   obtain⟨T,u,hu⟩:=ry.Xq;rw[Bool.xor_false];exact Good.pure h (key1 _ _ hu) (.bool _)
theorem adG(h:Rel E S a w L){t:TypeId}{y:Operand}{y':bg}(ho:o.op= .unOp .neg t y)(hy:bb y=some y')(he:exec Γ nid S (.oP .neg [y'])=some (x,wr)):Good P E S a w o x wr:=by
 have ry:=h.eM hy;obtain⟨hv,rfl⟩:=vM he;simp only[QD,QO]at hv;generalize y'.val S=p at ry hv
 cases p with
 |int k n=>
  change some (PV.int k (k.wrap (0 - n)))=some x at hv
  injection hv with hv
  subst hv;exact Good.pure h (v:= .int k (k.wrap (0 - n))) (by simp[execOp,ho,ry.eC,Op.unary,Op.intArith]) (.int _ _)
 |_=>cases hv
theorem adI(h:Rel E S a w L){t:TypeId}{y:Operand}{y':bg}(ho:o.op= .makeInterface t y)(ht:P.concrete t=true)(hy:bb y=some y')(he:exec Γ nid S (.oP (.Vz t) [y'])=some (x,wr)):Good P E S a w o x wr:=by
 have ry:=h.eM hy;obtain⟨hv,rfl⟩:=vM he;simp only[QD,QO]at hv;generalize y'.val S=p at ry hv
 change (if(p.plain&&p.one)=true then some (PV.gA t p)else none)=some x at hv
 split at hv
 ·rename_i hp;rw[Qm]at hp;injection hv with hv
  subst hv;exact Good.pure h (by simp[execOp,ho,run_makeInterface,ht]) (.gA _ _ _ hp.1 (ry.plain hp.1))
 ·cases hv
theorem adD(h:Rel E S a w L){t t0:TypeId}{u:TypeDesc}{i:TypeInfo}{zv:Value}{zp:PV}{y:Operand}{y':bg}(ho:o.op= .typeAssert y t0 t true)(hu:P.underlying t=some u)(hni:∀ms,u≠ .interface ms)(hi:P.info? t=some i)(hz:i.zero=some zv)(hzp:vZ zv=some zp)
  (hy:bb y=some y') (he:exec Γ nid S (.oP (.P9 t zp) [y'])=some (x,wr)):Good P E S a w o x wr:=by
 have ry:=h.eM hy;obtain⟨hv,rfl⟩:=vM he;simp only[QD,QO]at hv;generalize y'.val S=p at ry hv
 have two:∀{M:Nat->Prop} {G:Gh} {p q:PV} {v1 v2:Value},aW w M G p v1->aW w M G q v2->aW w M G (.cX [p,q]) (.tuple #[v1,v2]):=fun h1 h2=>by
  have:=aR.cons h1 (aR.cons h2 aR.nil);exact .cX _ _ this.1 this.2
 unfold lI at hv;split at hv<;>simp only[reduceCtorEq,PQ.P9.injEq,List.cons.injEq,and_true,and_false]at*<;>try contradiction
 ·rename_i T z T' p0 e0 e1;obtain⟨rfl,rfl⟩:=e0;subst e1;obtain⟨v,hv1,hp,hv2⟩:=ry.RO;injection hv with hv
  subst hv
  by_cases hT:T'=t
  ·rw[Qr hT];refine Good.pure h (v:= .tuple #[v,.bool true]) ?_ (two (hv2.plain hp) (.bool _));cases u<;>first|exact absurd rfl (hni _)|simp[execOp,ho,hv1,Instr.typeAssert,run_underlying hu,hT]
  ·rw[Qs hT];refine Good.pure h (v:= .tuple #[zv,.bool false]) ?_ (two (wK hzp) (.bool _));cases u<;>first|exact absurd rfl (hni _)|simp[execOp,ho,hv1,Instr.typeAssert,run_underlying hu,hT,zeroValue,typeInfo,hi,hz]
 ·rename_i T z e0 e1;obtain⟨rfl,rfl⟩:=e0;subst e1;injection hv with hv
  subst hv;refine Good.pure h (v:= .tuple #[zv,.bool false]) ?_ (two (wK hzp) (.bool _));cases u<;>first|exact absurd rfl (hni _)|simp[execOp,ho,ry.Np,Instr.typeAssert,run_underlying hu,zeroValue,typeInfo,hi,hz]
theorem Ev:∀{es:List (List PV)} {l:List UInt8},bytesOf es=some l->es=l.map fun b=>[.int .u8 (b.toNat:Int)]
 |[],l,h=>by injection h with h;subst h;rfl
 |e::es,l,h=>by
  unfold bytesOf at h;split at h
  ·rename_i e0;cases e0
  ·rename_i n l0 e0;injection e0 with e1 e2
   subst e1 e2;split at h
   ·rename_i b bs hb hbs;injection h with h
    subst h;rw[QD,<-Ev hbs];unfold byteOf at hb;split at hb
    ·rename_i hn;injection hb with hb
     subst hb
     have:(((UInt8.ofNat n.toNat).toNat:Nat):Int)=n:=by
      rw[UInt8.toNat_ofNat',Nat.mod_eq_of_lt (by omega)]
      omega
     rw[this]
    ·cases hb
   ·cases h
  ·cases h
theorem adP(h:Rel E S a w L){src dst e:TypeId}{y:Operand}{y':bg}(ho:o.op= .convert src dst y)(hs:P.underlying src=some (.slice e))(hb:P.underlying e=some (.int .u8))(hd:P.underlying dst=some .string)(hy:bb y=some y')
  (he:exec Γ nid S (.oP .YS [y'])=some (x,wr)):Good P E S a w o x wr:=by
 have ry:=h.eM hy;obtain⟨hv,rfl⟩:=vM he;simp only[QD,QO]at hv;generalize y'.val S=p at ry hv;unfold lI at hv;split at hv<;>simp only[reduceCtorEq,List.cons.injEq,and_true,and_false]at*<;>try contradiction
 rename_i es _ e1;subst e1;simp only[Qb]at hv;obtain⟨l,hl,rfl⟩:=hv;have hes:=Ev hl
 have hfl:es.flatten=l.map fun b=> .int .u8 (b.toNat:Int):=by
  rw[hes];clear hl hes ry he
  induction l with
  |nil=>rfl
  |cons b l ih=>rw[QD,List.flatten_cons,ih];rfl
 rcases ry.yo with⟨hv,h0⟩|⟨ad,c,k,vs,hv,hk,hr,hc,_⟩
 ·have h1:l=[]:=by rw[hes]at h0;simpa using h0
  subst h1;refine Good.pure h (v:= .string ⟨#[]⟩) ?_ (.str _);simp only[execOp,ho,hv,Sem.run_bind];rw[run_convert_bytes_string w src dst e none 0 0 hs hb hd];simp[Conv.bytesToString];rfl
 ·refine Good.pure h (v:= .string ⟨l.toArray⟩) ?_ (.str _);have hle:es.length=l.length:=by rw[hes,QC]
  simp only[execOp,ho,hv,Sem.run_bind,hle];rw[run_convert_bytes_back w src dst e ad c l hs hb hd fun j hj=> ?_]
  ·rfl
  ·have hjv:j<vs.length:=by rw[hr.1,hfl,QC];exact hj
   have h1:=(hc j vs[j] (Qv hjv)).1;have h2:=hr.2 j (.int .u8 (l[j].toNat:Int)) vs[j] (by rw[hfl,QT,Qv hj];rfl) (Qv hjv)
   rw[h1,h2.eC]
theorem Om(h:Rel E S a w L){t:TypeId}{y:Operand}{y':bg}{lo hi:Option Operand}{zs:List bg}(ho:o.op= .slice t y lo hi none)(ht:P.underlying t=some .string)(hy:bb y=some y')
  (hz:(∃l l',lo=some l/\hi=none/\bb l=some l'/\zs=[l'])\/(∃l l',lo=none/\hi=some l/\bb l=some l'/\zs=[l'])\/(∃l l' m m',lo=some l/\hi=some m/\bb l=some l'/\bb m=some m'/\zs=[l',m']))
  (he:exec Γ nid S (.oP (.ir lo.isSome hi.isSome) (y'::zs))=some (x,wr)):Good P E S a w o x wr:=by
 have ry:=h.eM hy;obtain⟨hv,rfl⟩:=vM he
 have hx:∀s:ByteArray,a.eval y= .string s->(execOp a.eval o).run P w=((Instr.slice t (.string s) (lo.map a.eval) (hi.map a.eval) none).run P w).andThen fun v w'=> .ok (.value v) w':=by
  intro s hs;simp only[execOp,ho,hs,Sem.run_bind,Qq64,run_sliceAt_string (P:=P) w t _ _ _ none ht];rfl
 rcases hz with⟨l,l',rfl,rfl,hl,rfl⟩|⟨l,l',rfl,rfl,hl,rfl⟩|⟨l,l',m,m',rfl,rfl,hl,hm,rfl⟩
 ·have rl:=h.eM hl;simp only[QD,QO,Option.isSome_some,Option.isSome_none]at hv;generalize y'.val S=p at ry hv;generalize l'.val S=q at rl hv;unfold lI at hv;split at hv<;>simp only[reduceCtorEq,PQ.ir.injEq,List.cons.injEq,and_true,and_false]at*<;>try contradiction
  rename_i s k n _ e1;obtain⟨rfl,rfl⟩:=e1;simp only[Qb,ir]at hv;obtain⟨r,hr,rfl⟩:=hv;split at hr
  ·rename_i hb;injection hr with hr
   subst hr;refine Good.pure h (v:= .string (s.extract n.toNat s.size)) ?_ (.str _);rw[hx s ry.dH,Qe,Qq64,rl.eC,run_slice_string_from_if w t s k n ht,Qr ⟨hb.1,hb.2.1⟩];rfl
  ·cases hr
 ·have rl:=h.eM hl;simp only[QD,QO,Option.isSome_some,Option.isSome_none]at hv;generalize y'.val S=p at ry hv;generalize l'.val S=q at rl hv;unfold lI at hv;split at hv<;>simp only[reduceCtorEq,PQ.ir.injEq,List.cons.injEq,and_true,and_false]at*<;>try contradiction
  rename_i s k n _ e1;obtain⟨rfl,rfl⟩:=e1;simp only[Qb,ir]at hv;obtain⟨r,hr,rfl⟩:=hv;split at hr
  ·rename_i hb;injection hr with hr
   subst hr;refine Good.pure h (v:= .string (s.extract 0 n.toNat)) ?_ (.str _);rw[hx s ry.dH,Qe,Qq64,rl.eC,run_slice_string_to_if w t s k n ht,Qr ⟨hb.2.1,hb.2.2⟩];rfl
  ·cases hr
 ·have rl:=h.eM hl;have rm:=h.eM hm;simp only[QD,QO,Option.isSome_some]at hv;generalize y'.val S=p at ry hv;generalize l'.val S=q at rl hv;generalize m'.val S=q' at rm hv;unfold lI at hv;split at hv<;>simp only[reduceCtorEq,PQ.ir.injEq,List.cons.injEq,and_true,and_false]at*<;>try contradiction
  rename_i s k n k' n' _ e1;obtain⟨rfl,rfl,rfl⟩:=e1;simp only[Qb,ir]at hv;obtain⟨r,hr,rfl⟩:=hv;split at hr
  ·rename_i hb;injection hr with hr
   subst hr;refine Good.pure h (v:= .string (s.extract n.toNat n'.toNat)) ?_ (.str _);rw[hx s ry.dH,Qe,Qe,rl.eC,rm.eC,run_slice_string w t s k k' n n' ht hb.1 hb.2.1 hb.2.2];rfl
  ·cases hr
theorem Rr{M:Nat->Prop}{G:Gh}{t:TypeId}{n:Option Nat}{cs':List PV}{vs:List Value}{off:Nat}{x:PV}(ht:pT P t=some n)(hrd:aR w M G cs' (vs.drop off))(hx:tT n cs'=some x):∃v,(part t vs.toArray off).run P w= .ok v w/\aW w M G x v:=by
 cases n with
 |none=>
  cases hcs:cs' with
  |nil=>rw[hcs]at hx;simp[tT]at hx
  |cons y ys=>
   rw[hcs]at hx hrd;simp only[tT,Qf]at hx;subst hx;obtain⟨v,us,hus,h1,_⟩:=hrd.cons_inv;refine⟨v,?_,h1⟩
   have hv:vs[off]?=some v:=by
    have:(vs.drop off)[0]?=some v:=by rw[hus];rfl
    simpa[List.getElem?_drop]using this
   have hag:(isAgg t).run P w= .ok false w:=by
    unfold pT at ht;split at ht
    ·simp at ht
    ·simp at ht
    ·rename_i d _ hu hd;unfold isAgg;rw[Sem.run_bind,run_underlying hd w];cases d<;>simp_all
    ·cases ht
   simp[part,hag,hv]
 |some m=>
  simp only[tT]at hx;split at hx
  ·rename_i hm;injection hx with hx
   subst hx
   have hi:∃i,P.info? t=some i/\i.size=m:=by
    unfold pT at ht;split at ht
    ·simpa using ht
    ·simpa using ht
    ·simp at ht
    ·cases ht
   obtain⟨i,hi,hs⟩:=hi
   have hag:(isAgg t).run P w= .ok true w:=by
    unfold pT at ht;unfold isAgg;split at ht
    ·rename_i hu;rw[Sem.run_bind,run_underlying hu w];simp
    ·rename_i hu;rw[Sem.run_bind,run_underlying hu w];simp
    ·simp at ht
    ·cases ht
   have h3:=hrd.take m;refine⟨.agg ((vs.drop off).take m).toArray,?_,.agg _ _ h3.1 h3.2⟩;simp only[part,Sem.run_bind,hag,Result.andThen_ok,sizeOf,typeInfo];simp[program,Sem.run,hi,hs]
  ·cases hx
theorem ZC{M:Nat->Prop}{G:Gh}{t:TypeId}{n:Option Nat}{cs:List PV}{vs:List Value}{off:Nat}{x:PV}(ht:pT P t=some n)(hr:aR w M G cs vs)(hx:tT n ((cs.drop off).map nz)=some x):∃v,(part t vs.toArray off).run P w= .ok v w/\aW w M G x v:=by
 have hrd:aR w M G ((cs.drop off).map nz) (vs.drop off):=⟨by simp[hr.1],fun i y v hy hv=>by
  rw[QT,Qb]at hy;obtain⟨y0,hy0,rfl⟩:=hy;have h0:=(hr.drop off).2 i y0 v hy0 hv
  cases h0 with
  |dx=>exact .slnil
  |any=>exact .any _
  |undef=>exact .undef
  |int k n=>exact .int k n
  |bool b=>exact .bool b
  |fB b=>exact .fB b
  |str s=>exact .str s
  |jj=>exact .jj
  |cz f caps us hl h=>exact .cz f caps us hl h
  |iM f caps us hl h=>exact .iM f caps us hl h
  |agg cs us hl h=>exact .agg cs us hl h
  |cX cs us hl h=>exact .cX cs us hl h
  |ptr id ar off a hN hV h=>exact .ptr id ar off a hN hV h
  |ref cs a us hl hc h=>exact .ref cs a us hl hc h
  |sl es a c k us hk hl hc h hn hm=>exact .sl es a c k us hk hl hc h hn hm
  |slnil=>exact .slnil
  |own id ar a n c hN hV h=>exact .own id ar a n c hN hV h
  |ed id ar k i off a hN hV h=>exact .ed id ar k i off a hN hV h
  |view id ar k lo n a c hN hV h=>exact .view id ar k lo n a c hN hV h
  |sf=>exact .sf
  |si T v=>exact .si T v
  |gA T x v hp h=>exact .gA T x v hp h
  |iu ks us b es ck hb hMb hk hl h1 h2=>exact .iu ks us b es ck hb hMb hk hl h1 h2⟩
 exact Rr ht hrd hx
theorem adM(h:Rel E S a w L){t:TypeId}{fs:Array Field}{f:Field}{n:Option Nat}{i:Nat}{y:Operand}{y':bg}(ho:o.op= .field t y i)(ht:P.underlying t=some (.struct fs))(hf:fs[i]?=some f)(hn:pT P f.type=some n)(hy:bb y=some y')
  (he:exec Γ nid S (.Gs n f.offset y')=some (x,wr)):Good P E S a w o x wr:=by
 have ry:=h.eM hy;simp only[exec]at he;split at he
 ·rename_i cs e1;rw[e1]at ry;obtain⟨vs,hv,hr⟩:=ry.oy;simp only[Qb]at he;obtain⟨b,hb,he⟩:=he;injection he with h1 h2
  subst h1 h2;obtain⟨v,hp,hrv⟩:=Rr (w:=w) hn (hr.drop f.offset) hb;refine Good.pure h (v:=v) ?_ hrv;simp[execOp,ho,Instr.field,run_underlying ht,hv,hf,asAgg,hp]
 ·cases he
theorem acg(h:Rel E S a w L){t e:TypeId}{n:Option Nat}{len:Nat}{i:TypeInfo}{y z:Operand}{y' z':bg}(ho:o.op= .index t y z)(ht:P.underlying t=some (.array len e))(hn:pT P e=some n)(hi:P.info? e=some i)(hy:bb y=some y')(hz:bb z=some z')
  (he:exec Γ nid S (.AH e n len i.size y' z')=some (x,wr)):Good P E S a w o x wr:=by
 have ry:=h.eM hy;have rz:=h.eM hz;simp only[exec]at he;split at he
 ·rename_i cs kk j e1 e2;rw[e1]at ry;rw[e2]at rz;obtain⟨vs,hv,hr⟩:=ry.oy;have hj:=rz.eC;split at he
  ·rename_i h0;simp only[Qb]at he;obtain⟨b,hb,he⟩:=he;injection he with h1 h2
   subst h1 h2;obtain⟨v,hp,hrv⟩:=ZC (w:=w) hn hr hb;refine Good.pure h (v:=v) ?_ hrv;have hsz:(Go.sizeOf e).run P w= .ok i.size w:=by simp[sizeOf,typeInfo,program,Sem.run,hi]
   simp[execOp,ho,Instr.index,run_underlying ht,hv,hj,asIntOf,h0.1,h0.2,hsz,hp]
  ·cases he
 ·cases he
theorem Rel.OC(h:Rel E S a w L){y:PV}{v:Value}{es:List (List PV)}(r:aW w (bp E S L) (S.gh L) y v)(he:ig S y=some es):∃(ad:Option Addr) (c:Nat),v= .slice ad es.length c:=by
 unfold ig at he;split at he
 ·injection he with he;subst he;exact⟨none,0,r.oX⟩
 ·injection he with he;subst he
  rcases r.yo with⟨hv,h0⟩|⟨ad,c,k,vs,hv,_⟩
  ·subst h0;exact⟨none,0,hv⟩
  ·exact⟨_,_,hv⟩
 ·rename_i id ar;split at he
  ·rename_i hver;split at he
   ·rename_i hc;injection he with he;subst he
    obtain⟨hN,hv⟩:=r.kR (show(S.gh L).V id=ar from hver)
    obtain⟨vs,hown,hk,hr⟩:=h.iI hN hc;rcases hown.2 with⟨hL,h0⟩|⟨g,cap,cur,hL,_⟩
    ·exact⟨none,0,by rw[hv,show(S.gh L).L id=L id from rfl,hL,h0]⟩
    ·exact⟨_,_,by rw[hv,show(S.gh L).L id=L id from rfl,hL]⟩
   ·cases he
  ·cases he
 ·rename_i id ar k lo n;split at he
  ·rename_i hver;split at he
   ·split at he
    ·rename_i e1 k' es0 hc _;injection he with he;subst he
     obtain⟨hN,ad,c,hv,hat⟩:=r.vF (show(S.gh L).V id=ar from hver)
     have hb:=h.EJ hN hc hat;refine⟨ad,c,?_⟩;rw[hv];congr 1;simp;omega
    ·cases he
   ·cases he
  ·cases he
 ·cases he
theorem acb(h:Rel E S a w L){y:Operand}{y':bg}{t:TypeId}(ho:o.op= .call {callee:= .builtin .len,args:=#[y],argTypes:=#[t]})(ht:P.underlying t=some .string)(hy:bb y=some y')
  (he:exec Γ nid S (.len true y')=some (x,wr)):Good P E S a w o x wr:=by
 have r:=h.eM hy;simp only[exec]at he;split at he
 ·rename_i s e;rw[e]at r;obtain⟨rfl,rfl⟩:=bW he;have hv:=r.dH;exact Good.pure h (by simp[execOp,ho,resolve,invoke,builtin,Builtin.len_,run_underlying ht,hv,goInt]) (.int _ _)
 ·cases he
theorem adL(h:Rel E S a w L){y:Operand}{y':bg}{t e:TypeId}(ho:o.op= .call {callee:= .builtin .len,args:=#[y],argTypes:=#[t]})(ht:P.underlying t=some (.slice e))(hy:bb y=some y')
  (he:exec Γ nid S (.len false y')=some (x,wr)):Good P E S a w o x wr:=by
 have r:=h.eM hy;simp only[exec,Qb]at he;obtain⟨es,hes,he⟩:=he;injection he with h1 h2
 subst h1 h2;obtain⟨ad,c,hv⟩:=h.OC r hes;exact Good.pure h (by simp[execOp,ho,resolve,invoke,builtin,Builtin.len_,run_underlying ht,hv,goInt]) (.int _ _)
theorem On(h:Rel E S a w L){y z:Operand}{y' z':bg}{mx:Bool}{ts:Array TypeId}(ho:o.op= .call {callee:= .builtin (if mx then .max else .min),args:=#[y,z],argTypes:=ts})(hy:bb y=some y')(hz:bb z=some z')
  (he:exec Γ nid S (.qF mx y' z')=some (x,wr)):Good P E S a w o x wr:=by
 have ry:=h.eM hy;have rz:=h.eM hz;simp only[exec]at he;split at he
 ·rename_i k p k' q e1 e2;split at he
  ·rename_i hk;subst hk;obtain⟨rfl,rfl⟩:=bW he;rw[e1]at ry;rw[e2]at rz;have hv:=ry.eC;have hu:=rz.eC;cases mx
   ·exact Good.pure h (by simp[execOp,ho,resolve,invoke,builtin,Builtin.min_,Builtin.min2,hv,hu]) (.int _ _)
   ·exact Good.pure h (by simp[execOp,ho,resolve,invoke,builtin,Builtin.max_,Builtin.max2,hv,hu]) (.int _ _)
  ·cases he
 ·cases he
end
end
section
open Go.RowKit
section
variable {P : Program} {E : En} {S : St} {a : Act} {w : World} {L : Nat -> Value} {o : Oper} {x : PV} {wr : Option (Nat × fc)} {Γ : nk} {nid : Nat}
theorem IW(off:Nat):∀(vs:List Value) (s:Nat) (cells:Array Value),off+s+vs.length<=cells.size->
  ((vs.zipIdx s).foldl (fun cs (p:Value×Nat)=>cs.setIfInBounds (off+p.2) p.1) cells).toList=cells.toList.take (off+s)++vs++cells.toList.drop (off+s+vs.length)
 |[],s,cells,_=>by simp
 |v::vs,s,cells,h=>by
  simp only[List.zipIdx_cons,QU];rw[IW off vs (s+1) _ (by simp at h ⊢;omega)]
  have:=list_seg_step cells.toList (off+s) v vs (by simp at h ⊢;omega)
  simpa[Array.toList_setIfInBounds,Nat.add_assoc]using this
theorem Tv(off:Nat)(vs cells:Array Value)(h:off+vs.size<=cells.size):
  (vs.zipIdx.foldl (fun cs (p:Value×Nat)=>cs.setIfInBounds (off+p.2) p.1) cells).toList=cells.toList.take off++vs.toList++cells.toList.drop (off+vs.size):=by
 have:=IW off vs.toList 0 cells (by simpa using h)
 simp only[Nat.add_zero,Array.length_toList]at this;rw[<-this,<-Array.foldl_toList];simp
theorem aR.gz{M:Nat->Prop}{G:Gh}{cs xs:List PV}{vs us:List Value}(h:aR w M G cs vs)(k:aR w M G xs us)(off:Nat):
  aR w M G (gz cs off xs) (vs.take off++us++vs.drop (off+us.length)):=by
 unfold TQ.gz;rw[k.1];exact((h.take off).append k).append (h.drop _)
theorem Fh(h:Rel E S a w L)(place:Nat->Option (Nat×Nat)):∀(parts:List (Nat×Operand)) (ps:List (Nat×Nat×bg)) (cells:Array Value) (cs cs':List PV),sL place parts=some ps->
  aR w (bp E S L) (S.gh L) cs cells.toList->ox S cs ps=some cs'->∃cells',Instr.fill place cells (parts.map fun p=>(p.1,a.eval p.2))=some cells'/\aR w (bp E S L) (S.gh L) cs' cells'.toList
 |[],ps,cells,cs,cs',hp,hr,hf=>by
  simp[sL]at hp;subst hp;simp only[ox,Qf]at hf;subst hf;exact⟨cells,rfl,hr⟩
 |(i,y)::rest,ps,cells,cs,cs',hp,hr,hf=>by
  simp only[sL,Qq74,Qd,Qc,Option.pure_def,Qf]at hp;obtain⟨_,⟨⟨off,n⟩,hq,y',hy,rfl⟩,qs,hqs,rfl⟩:=hp;simp only[ox]at hf;split at hf
  ·rename_i hb;obtain⟨h1,h2,h3⟩:=hb;have r:=(h.eM hy).cells (fun z hz=>QH.1 h3 z hz)
   have hn:(a.eval y).cells.size=n:=by have:=r.1.1;simp at this;omega
   have hlen:cells.size=cs.length:=by have:=hr.1;simpa using this
   have hfc:=Tv off (a.eval y).cells cells (by omega)
   have hr2:aR w (bp E S L) (S.gh L) (TQ.gz cs off (y'.val S).cells) ((a.eval y).cells.zipIdx.foldl (fun cs (p:Value×Nat)=>cs.setIfInBounds (off+p.2) p.1) cells).toList:=by
    rw[hfc];have:=hr.gz r.1 off;simpa using this
   obtain⟨cells',hfl,hr'⟩:=Fh h place rest qs _ _ cs' hqs hr2 hf;refine⟨cells',?_,hr'⟩;simp only[QD,Instr.fill,hq];rw[Qs (by simp[hn];omega)]
   exact hfl
  ·cases hf
theorem Ib{M:Nat->Prop}{G:Gh}:∀{vs:List Value} {cs:List PV},vs.mapM vZ=some cs->aR w M G cs vs
 |[],cs,h=>by simp at h;subst h;exact .nil
 |v::vs,cs,h=>by
  simp only[Qq74,Qd,Qc,Option.pure_def,Qf]at h;obtain⟨x,hx,xs,hxs,rfl⟩:=h;exact .cons (wK hx) (Ib hxs)
theorem Bx{M:Nat->Prop}{G:Gh}{t:TypeId}{z:List PV}(h:tY P t=some z):∃i v,P.info? t=some i/\i.zero=some v/\v.cells.size=i.size/\aR w M G z v.cells.toList:=by
 unfold tY at h;split at h
 ·rename_i i hi;split at h
  ·rename_i v hv;split at h
   ·rename_i hs;exact⟨i,v,hi,hv,hs,Ib h⟩
   ·cases h
  ·cases h
 ·cases h
theorem RT(h:Rel E S a w L){t:TypeId}{parts:Array (Nat×Operand)}{z:List PV}{ps:List (Nat×Nat×bg)}(ho:o.op= .build t parts)(hz:tY P t=some z)
  (hp:(∃fields places,P.underlying t=some (.struct fields)/\fields.toList.mapM (fun f=>(P.info? f.type).map fun i=>(f.offset,i.size))=some places/\sL (fun i=>places[i]?) parts.toList=some ps)\/
   (∃n e i,P.underlying t=some (.array n e)/\P.info? e=some i/\sL (fun j=>some (j*i.size,i.size)) parts.toList=some ps))
  (he:exec Γ nid S (.build z ps)=some (x,wr)):Good P E S a w o x wr:=by
 simp only[exec,Qb]at he;obtain⟨cs,hf,he⟩:=he;injection he with h1 h2
 subst h1 h2;obtain⟨i,v,hi,hv,hs,hr⟩:=Bx (P:=P) (w:=w) (M:=bp E S L) (G:=S.gh L) hz;rcases hp with⟨fields,places,hu,hpl,hc⟩|⟨n,e,ie,hu,hie,hc⟩
 ·obtain⟨cells,hfl,hr'⟩:=Fh h _ _ _ _ _ _ hc hr hf;refine Good.pure (v:= .agg cells) h ?_ (by have:=hr';exact(show(cells:Array Value)=cells.toList.toArray by simp)▸ .agg cs cells.toList this.1 this.2)
  have hb:P.built t (parts.map fun(i,x)=>(i,a.eval x)).toList=some cells:=by
   simp only[Program.built,hi,hu,hv,hpl];simpa using hfl
  simp only[execOp,ho,Sem.run_bind,run_build w t _ cells hb,Result.andThen_ok,Sem.run_pure]
 ·obtain⟨cells,hfl,hr'⟩:=Fh h _ _ _ _ _ _ hc hr hf;refine Good.pure (v:= .agg cells) h ?_ (by have:=hr';exact(show(cells:Array Value)=cells.toList.toArray by simp)▸ .agg cs cells.toList this.1 this.2)
  have hb:P.built t (parts.map fun(i,x)=>(i,a.eval x)).toList=some cells:=by
   simp only[Program.built,hi,hu,hv,hie];simpa using hfl
  simp only[execOp,ho,Sem.run_bind,run_build w t _ cells hb,Result.andThen_ok,Sem.run_pure]
end
end
section
open Go.RowKit
section
variable {P : Program} {E : En} {S : St} {a : Act} {w : World} {L : Nat -> Value} {o : Oper} {x : PV} {wr : Option (Nat × fc)} {Γ : nk} {nid : Nat}
theorem Rel.Vy(h:Rel E S a w L)(hn:nid<S.N){cs:List PV}{cur:Array Value}(T:TypeId)(hr:aR w (bp E S L) (S.gh L) cs cur.toList):
  ∃L',Rel E (S.ei (some (nid,⟨(S.H nid).ar+1,.box cs⟩))) a (w.alloc (.cells cur T)) L'/\
   aW (w.alloc (.cells cur T)) (bp E (S.ei (some (nid,⟨(S.H nid).ar+1,.box cs⟩))) L') ((S.ei (some (nid,⟨(S.H nid).ar+1,.box cs⟩))).gh L') (.ptr nid ((S.H nid).ar+1) 0) (.pointer (some ⟨w.heap.size,0,none⟩)):=by
 obtain⟨h1,hs,hg⟩:=h.og (w':=w.alloc (.cells cur T)) hn ⟨(S.H nid).ar+1,.box cs⟩ (.pointer (some ⟨w.heap.size,0,none⟩)) (.inr (Nat.lt_succ_self _)) rfl rfl rfl (by simp)
  (fun b hb _=>Below.heap_alloc _ _ _ hb) (fun b _ hb=> .inr (by simp only[dS,Qf]at hb;omega))
  (fun hs hg=>⟨w.heap.size,cur,T,rfl,heap_alloc_new w _,.inr h.fr.size,hr.mono hs hg⟩)
 refine⟨_,h1,?_⟩;refine .ptr _ _ _ _ hn ?_ (fun _=> ?_)
 ·simp[St.gh,St.ei,ca]
 ·simp[St.gh,St.ei,ca,dS]
theorem Rel.RA(h:Rel E S a w L)(hn:nid<S.N){e k c:Nat}{es:List (List PV)}{cur:Array Value}(hk:∀u∈es,u.length=k)(hec:es.length<=c)(hm:c<=maxLen)(hcl:cur.toList.length=c*k)(hr:aR w (bp E S L) (S.gh L) es.flatten (cur.toList.take (es.length*k))):
  ∃L',Rel E (S.ei (some (nid,⟨(S.H nid).ar+1,.row e k es⟩))) a (w.alloc (.cells cur e)) L'/\
   aW (w.alloc (.cells cur e)) (bp E (S.ei (some (nid,⟨(S.H nid).ar+1,.row e k es⟩))) L') ((S.ei (some (nid,⟨(S.H nid).ar+1,.row e k es⟩))).gh L') (.own nid ((S.H nid).ar+1)) (.slice (some ⟨w.heap.size,0,none⟩) es.length c):=by
 have hl:(cur.toList.take (es.length*k)).length=es.length*k:=by rw[hr.1,lO es k hk]
 obtain⟨h1,hs,hg⟩:=h.og (w':=w.alloc (.cells cur e)) hn ⟨(S.H nid).ar+1,.row e k es⟩ (.slice (some ⟨w.heap.size,0,none⟩) es.length c) (.inr (Nat.lt_succ_self _)) rfl rfl rfl (by simp)
  (fun b hb _=>Below.heap_alloc _ _ _ hb) (fun b _ hb=> .inr (by simp only[dS,Qf]at hb;omega))
  (fun hs hg=>⟨cur.toList.take (es.length*k),⟨hl,.inr ⟨w.heap.size,c,cur,rfl,QK (HK E _) h.fr.size,heap_alloc_new w _,hec,hm,by simpa using hcl,rfl⟩⟩,hk,hr.mono hs hg⟩)
 refine⟨_,h1,?_⟩;refine .own _ _ _ _ _ hn ?_ (fun _=> ?_)
 ·simp[St.gh,St.ei,ca]
 ·simp[St.gh,St.ei,ca]
theorem Rel.newRow(h:Rel E S a w L)(hn:nid<S.N){e k:Nat}{es:List (List PV)}{cur:Array Value}(hk:∀u∈es,u.length=k)(hm:es.length<=maxLen)(hr:aR w (bp E S L) (S.gh L) es.flatten cur.toList):
  ∃L',Rel E (S.ei (some (nid,⟨(S.H nid).ar+1,.row e k es⟩))) a (w.alloc (.cells cur e)) L'/\
   aW (w.alloc (.cells cur e)) (bp E (S.ei (some (nid,⟨(S.H nid).ar+1,.row e k es⟩))) L') ((S.ei (some (nid,⟨(S.H nid).ar+1,.row e k es⟩))).gh L') (.own nid ((S.H nid).ar+1)) (.slice (some ⟨w.heap.size,0,none⟩) es.length es.length):=by
 have hl:cur.toList.length=es.length*k:=by rw[hr.1,lO es k hk]
 exact h.RA hn hk (QI _) hm hl (by rw[<-hl,Q9];exact hr)
theorem HF(e:TypeId)(cells:Array Value):(newRow e cells).run P w= .ok ⟨w.heap.size,0,none⟩ (w.alloc (.cells cells e)):=rfl
theorem BM(e:TypeId)(v:Value):(newVar e v).run P w= .ok ⟨w.heap.size,0,none⟩ (w.alloc (.cells v.cells e)):=rfl
theorem YJ(h:Rel E S a w L)(hn:nid<S.N){t:TypeId}{y:Operand}{y':bg}(ho:o.op= .box t y)(hy:bb y=some y')(he:exec Γ nid S (.box y')=some (x,wr)):Good P E S a w o x wr:=by
 simp only[exec]at he;split at he
 ·rename_i h1;obtain⟨rfl,rfl⟩:=bW he;have r:=((h.eM hy).cells (fun z hz=>QH.1 h1 z hz)).1
  obtain⟨L',h2,h3⟩:=h.Vy hn t r;exact⟨_,_,L',_,by simp[execOp,ho,Instr.box,BM],.inl rfl,h3,h2⟩
 ·cases he
theorem aac(h:Rel E S a w L)(hn:nid<S.N){t:TypeId}{z:List PV}(ho:o.op= .alloc t)(hz:tY P t=some z)(he:exec Γ nid S (.alloc z)=some (x,wr)):Good P E S a w o x wr:=by
 simp only[exec]at he;obtain⟨rfl,rfl⟩:=bW he;obtain⟨i,v,hi,hv,hs,hr⟩:=Bx (P:=P) (w:=w) (M:=bp E S L) (G:=S.gh L) hz;obtain⟨L',h2,h3⟩:=h.Vy hn t hr;exact⟨_,_,L',_,by simp[execOp,ho,Instr.alloc,zeroValue,typeInfo,hi,hv,BM],.inl rfl,h3,h2⟩
theorem KX(z:Array Value)(hz:0<z.size)(n:Nat):((Array.range (n*z.size)).map (z[· % z.size]!)).toList=(List.replicate n z.toList).flatten:=by
 apply List.ext_getElem?;intro i;have hfl:(List.replicate n z.toList).flatten.length=n*z.size:=by rw[lO _ z.size (fun u hu=>by rw[(List.mem_replicate.1 hu).2];simp)];simp
 by_cases hi:i<n*z.size
 ·have hq:i / z.size<n:=by rw[Nat.div_lt_iff_lt_mul hz];exact hi
  have hr:i % z.size<z.size:=Nat.mod_lt _ hz;have:=rL (List.replicate n z.toList) z.size (i / z.size) z.toList (fun u hu=>by rw[(List.mem_replicate.1 hu).2];simp) (by rw[List.getElem?_replicate,Qr hq]) (i % z.size) hr
  have e:i / z.size*z.size+i % z.size=i:=by rw[Nat.mul_comm];exact Nat.div_add_mod i z.size
  rw[e]at this;rw[this];simp[hi,hr]
 ·rw[Qq71 (by simp;omega),Qq71 (by omega)]
theorem Az{α:Type}:∀(es:List (List α)) (k i:Nat) (xs:List α),(∀u∈es,u.length=k)->xs.length=k->i<es.length->(es.set i xs).flatten=es.flatten.take (i*k)++xs++es.flatten.drop (i*k+xs.length)
 |[],_,_,_,_,_,h=>by simp at h
 |e::es,k,i,xs,hk,hx,hi=>by
  have he:e.length=k:=hk e (by simp)
  cases i with
  |zero=>
   simp only[List.set_cons_zero,List.flatten_cons,Nat.zero_mul,List.take_zero,List.nil_append,Nat.zero_add];rw[hx,<-he,List.drop_left]
  |succ i=>
   have:=Az es k i xs (fun u hu=>hk u (by simp[hu])) hx (by simpa using hi)
   simp only[List.set_cons_succ,List.flatten_cons,this];have e1:(i+1)*k=e.length+i*k:=by rw[Qq72,he];omega
   rw[e1,List.take_append,List.take_of_length_le (show e.length<=e.length+i*k by omega),Nat.add_sub_cancel_left,Nat.add_assoc,List.drop_append,
    List.drop_eq_nil_of_le (show e.length<=e.length+(i*k+xs.length)by omega),Nat.add_sub_cancel_left]
   simp
theorem Lf(k:Nat):∀(ps:List (Nat×bg)) (es es':List (List PV)),(∀u∈es,u.length=k)->qN S k es ps=some es'->
  ox S es.flatten (ps.map fun p=>(p.1*k,k,p.2))=some es'.flatten/\(∀u∈es',u.length=k)/\es'.length=es.length
 |[],es,es',hk,hf=>by simp only[qN,Qf]at hf;subst hf;exact⟨rfl,hk,rfl⟩
 |(i,y)::ps,es,es',hk,hf=>by
  simp only[qN]at hf;split at hf
  ·rename_i hb;obtain⟨h1,h2,h3⟩:=hb
   have hk':∀u∈es.set i (y.val S).cells,u.length=k:=by
    intro u hu;rcases List.mem_or_eq_of_mem_set hu with hu|hu
    ·exact hk u hu
    ·rw[hu,h1]
   obtain⟨h4,h5,h6⟩:=Lf k ps _ _ hk' hf;refine⟨?_,h5,by simpa using h6⟩
   have hle:i*k+k<=es.flatten.length:=by
    rw[lO es k hk];have:=Qq62 k (show i+1<=es.length by omega)
    rw[Qq72]at this;omega
   simp only[QD,ox];rw[Qr ⟨h1,hle,h3⟩];rw[Az es k i _ hk h1 h2]at h4;exact h4
  ·cases hf
theorem Ln{k:Nat}:∀{parts:List (Nat×Operand)} {ps:List (Nat×bg)},(parts.mapM fun p=>(bb p.2).map fun y=>(p.1,y))=some ps->sL (fun j=>some (j*k,k)) parts=some (ps.map fun p=>(p.1*k,k,p.2))
 |[],ps,h=>by simp at h;subst h;simp[sL]
 |p::parts,ps,h=>by
  simp only[Qq74,Qd,Qc,Option.pure_def,Qf,Qb]at h;obtain⟨q,⟨y,hy,rfl⟩,qs,hqs,rfl⟩:=h;have ih:=Ln (k:=k) hqs;unfold sL at ih ⊢;simp only[Qq74,ih];simp[hy]
theorem xo{M:Nat->Prop}{G:Gh}{z:List PV}{vs:List Value}(h:aR w M G z vs):∀n,aR w M G (List.replicate n z).flatten (List.replicate n vs).flatten
 |0=>by simpa using aR.nil
 |n+1=>by simp only[List.replicate_succ,List.flatten_cons];exact h.append (xo h n)
theorem aW.R5{M:Nat->Prop}{G G':Gh}{y:PV}{v:Value}(h:aW w M G y v)(hc:y.closed=true):aW w M G' y v:=by
 cases h with
 |any=>simp[PV.closed]at hc
 |undef=>simp[PV.closed]at hc
 |int=>exact .int _ _
 |bool=>exact .bool _
 |fB=>first|exact .fB _|simp[PV.closed]at hc
 |str=>exact .str _
 |jj=>exact .jj
 |dx=>exact .dx
 |cz f cs vs hl h=>
  cases cs with
  |nil=>exact .cz f [] vs hl (fun i x v hx _=>by simp at hx)
  |cons=>simp[PV.closed]at hc
 |iM=>simp[PV.closed]at hc
 |agg=>simp[PV.closed]at hc
 |cX=>simp[PV.closed]at hc
 |ptr=>simp[PV.closed]at hc
 |ref cs ad vs hl hcell h=>exact .ref cs ad vs hl hcell h
 |sl es ad c k vs hk hl hcell h hn hm=>exact .sl es ad c k vs hk hl hcell h hn hm
 |slnil=>exact .slnil
 |own=>simp[PV.closed]at hc
 |ed=>simp[PV.closed]at hc
 |view=>simp[PV.closed]at hc
 |sf=>exact .sf
 |si T v=>exact .si T v
 |gA T x v hp h=>exact .gA T x v hp (h.plain hp)
 |iu ks us b es ck hb hMb hk hv h1 h2=>exact .iu ks us b es ck hb hMb hk hv h1 h2
theorem acf(h:Rel E S a w L){t:TypeId}{y:Operand}{y':bg}(ho:o.op= .box t y)(hy:bb y=some y')(he:exec Γ nid S (.AF y')=some (x,wr)):Good P E S a w o x wr:=by
 simp only[exec]at he;split at he
 ·rename_i h1;rw[Qm]at h1;obtain⟨rfl,rfl⟩:=bW he;have r:=((h.eM hy).cells (fun z hz=>QH.1 h1.1 z hz)).1
  obtain⟨h2,hs1⟩:=h.grow (w':=w.alloc (.cells (a.eval y).cells t)) rfl rfl rfl (by simp) (fun b hb=>Below.heap_alloc _ _ _ hb)
  refine⟨.value (.pointer (some ⟨w.heap.size,0,none⟩)),_,L,_,by simp[execOp,ho,Instr.box,BM],.inl rfl,?_,h2⟩
  have r2:aR (w.alloc (.cells (a.eval y).cells t)) (bp E S L) dm (y'.val S).cells (a.eval y).cells.toList:=
   ⟨r.1,fun i0 z v0 hz hv0=>((r.2 i0 z v0 hz hv0).mono hs1 (Gh.le.refl _)).R5 (QH.1 h1.2 z (Q7 hz))⟩
  refine .ref _ _ (a.eval y).cells.toList r2.1 (fun q u hu=>⟨?_,fun hm=> ?_⟩) r2.2
  ·rw[add_mid];exact o5 (heap_alloc_new w _) (by simpa using hu)
  ·rcases hm with⟨id,hid,hl,hb⟩|hm
   ·have:=((h.obj id hid).uM hl hb).1;exact absurd this (Nat.lt_irrefl _)
   ·have h8:=E.hX.lt _ hm;have h9:=h.fr.size;simp only at h8;omega
 ·cases he
theorem aW.nz{M:Nat->Prop}{G:Gh}{y:PV}{v:Value}(h:aW w M G y v):aW w M G (nz y) v:=by
 cases h with
 |dx=>exact .slnil
 |any=>exact .any _
 |undef=>exact .undef
 |int=>exact .int _ _
 |bool=>exact .bool _
 |fB=>exact .fB _
 |str=>exact .str _
 |jj=>exact .jj
 |cz f cs vs hl h=>exact .cz f cs vs hl h
 |iM f cs vs hl h=>exact .iM f cs vs hl h
 |agg cs vs hl h=>exact .agg cs vs hl h
 |cX cs vs hl h=>exact .cX cs vs hl h
 |ptr _ _ _ _ h1 h2 h3=>exact .ptr _ _ _ _ h1 h2 h3
 |ref cs ad vs hl hc h=>exact .ref cs ad vs hl hc h
 |sl es ad c k vs hk hl hc h hn hm=>exact .sl es ad c k vs hk hl hc h hn hm
 |slnil=>exact .slnil
 |own _ _ _ _ _ h1 h2 h3=>exact .own _ _ _ _ _ h1 h2 h3
 |ed _ _ _ _ _ _ h1 h2 h3=>exact .ed _ _ _ _ _ _ h1 h2 h3
 |view _ _ _ _ _ _ _ h1 h2 h3=>exact .view _ _ _ _ _ _ _ h1 h2 h3
 |sf=>exact .sf
 |si T v=>exact .si T v
 |gA T x v hp h=>exact .gA T x v hp (h.plain hp)
 |iu ks us b es ck hb hMb hk hv h1 h2=>exact .iu ks us b es ck hb hMb hk hv h1 h2
theorem aR.nz{M:Nat->Prop}{G:Gh}{cs:List PV}{vs:List Value}(h:aR w M G cs vs):aR w M G (cs.map Go.TQ.nz) vs:=
 ⟨by simp[h.1],fun i x v hx hv=>by
  rw[QT,Qb]at hx;obtain⟨y,hy,rfl⟩:=hx
  exact(h.2 i y v hy hv).nz⟩
theorem F8(es:List (List PV)):(yC es).flatten=es.flatten.map nz:=by
 simp[yC,List.map_flatten]
theorem S5(es:List (List PV)):(yC es).length=es.length:=by simp[yC]
theorem ZH{es:List (List PV)}{k:Nat}(h:∀u∈es,u.length=k):∀u∈yC es,u.length=k:=by
 intro u hu;simp only[yC,QP]at hu;obtain⟨e,he,rfl⟩:=hu;simpa using h e he
theorem Vq{y:PV}(h:y.closed=true):(nz y).closed=true:=by
 cases y<;>simp_all [nz,PV.closed]
theorem adO(h:Rel E S a w L)(hn:nid<S.N){t e:TypeId}{len:Nat}{parts:Array (Nat×Operand)}{i:TypeInfo}{z:List PV}{ps:List (Nat×bg)}{mb:Bool}(ho:o.op= .buildSlice t len parts)(ht:P.underlying t=some (.slice e))
  (hi:P.info? e=some i) (hz:tY P e=some z) (hps:(parts.toList.mapM fun p=>(bb p.2).map fun y=>(p.1,y))=some ps) (hsm:len*i.size<=16777216) (h0:0<i.size) (hlen:len<=maxLen)
  (he:exec Γ nid S (.I7 mb e i.size (List.replicate len z) ps)=some (x,wr)):Good P E S a w o x wr:=by
 simp only[exec]at he;split at he
 case h_2=>cases he
 rename_i es hf;obtain⟨i',v,hi',hv,hs,hr⟩:=Bx (P:=P) (w:=w) (M:=bp E S L) (G:=S.gh L) hz;rw[hi]at hi';injection hi' with hi'
 subst hi';have hzl:z.length=i.size:=by have:=hr.1;simp at this;omega
 obtain⟨h3,h4,h5⟩:=Lf i.size ps _ _ (fun u hu=>by rw[(List.mem_replicate.1 hu).2,hzl]) hf
 have hr0:aR w (bp E S L) (S.gh L) (List.replicate len z).flatten ((Array.range (len*i.size)).map (v.cells[· % v.cells.size]!)).toList:=by
  rw[<-hs,KX v.cells (by omega)]
  exact xo hr len
 obtain⟨cells,hfl,hr'⟩:=Fh h _ _ _ _ _ _ (Ln hps) hr0 h3;have hle:(yC es).length=len:=by rw[S5,h5];simp
 replace h4:=ZH h4;replace hr':=hr'.nz;rw[<-F8]at hr'
 have hrun:(execOp a.eval o).run P w= .ok (.value (.slice (some ⟨w.heap.size,0,none⟩) len len)) (w.alloc (.cells cells e)):=by
  have hfl':Instr.fill (fun j=>some (j*i.size,i.size)) ((Array.range (len*i.size)).map (v.cells[· % v.cells.size]!)) (parts.map fun p=>(p.1,a.eval p.2)).toList=some cells:=by simpa using hfl
  by_cases hl0:len*i.size=0
  ·simp[execOp,ho,Instr.buildSlice,run_underlying ht,sizeOf,typeInfo,hi,hl0]at hfl' ⊢;have hle0:len=0:=by rcases Nat.mul_eq_zero.1 hl0 with h|h<;>omega
   subst hle0;have hnil:∀f:Nat->Value,Array.map f (Array.range 0)=#[]:=fun f=>by simp
   rw[hnil]at hfl' ⊢;rw[show Instr.fill (fun i_1=>some (i_1*i.size,i.size)) #[] (List.map (fun x=>(x.fst,a.eval x.snd)) parts.toList)=some cells from hfl']
   simp[HF]
  ·simp[execOp,ho,Instr.buildSlice,run_underlying ht,sizeOf,typeInfo,zeroValue,hi,hv,hl0,Nat.not_lt.2 hsm]at hfl' ⊢;rw[show Instr.fill (fun i_1=>some (i_1*i.size,i.size)) (Array.map (fun x=>v.cells[x % v.cells.size]!) (Array.range (len*i.size))) (List.map (fun x=>(x.fst,a.eval x.snd)) parts.toList)=some cells from hfl']
   simp[HF]
 split at he
 ·rename_i hcl;obtain⟨rfl,rfl⟩:=bW he;obtain⟨h1,hs1⟩:=h.grow (w':=w.alloc (.cells cells e)) rfl rfl rfl (by simp) (fun b hb=>Below.heap_alloc _ _ _ hb)
  refine⟨_,_,L,_,hrun,.inl rfl,?_,h1⟩
  have hall:∀y∈(yC es).flatten,y.closed=true:=fun y hy=>by
   rw[F8]at hy;obtain⟨y0,hy0,rfl⟩:=QP.1 hy;obtain⟨u,hu,hyu⟩:=List.mem_flatten.1 hy0;exact Vq (QH.1 (QH.1 hcl.2 u hu) y0 hyu)
  have hr2:aR (w.alloc (.cells cells e)) (bp E S L) dm (yC es).flatten cells.toList:=
   ⟨hr'.1,fun i0 y v0 hy hv0=>((hr'.2 i0 y v0 hy hv0).mono hs1 (Gh.le.refl _)).R5 (hall y (Q7 hy))⟩
  rw[<-hle];refine .sl (yC es) _ _ i.size cells.toList h4 hr2.1 (fun q u hu=>⟨?_,fun hm=> ?_⟩) hr2.2 (QI _) (by omega)
  ·rw[add_mid];exact o5 (heap_alloc_new w _) (by simpa using hu)
  ·rcases hm with⟨id,hid,hl,hb⟩|hm
   ·have:=((h.obj id hid).uM hl hb).1;exact absurd this (Nat.lt_irrefl _)
   ·have h8:=E.hX.lt _ hm;have h9:=h.fr.size;simp only at h8;omega
 ·obtain⟨rfl,rfl⟩:=bW he;obtain⟨L',h6,h7⟩:=h.newRow (e:=e) hn h4 (by omega) hr'
  rw[hle]at h7;exact⟨_,_,L',_,hrun,.inl rfl,h7,h6⟩
theorem adH(h:Rel E S a w L)(hn:nid<S.N){t e:TypeId}{y z:Operand}{y' z':bg}{i:TypeInfo}{zc:List PV}(ho:o.op= .makeSlice t y z)(ht:P.underlying t=some (.slice e))(hi:P.info? e=some i)(h0:0<i.size)(hz:tY P e=some zc)
  (hy:bb y=some y') (hz':bb z=some z') (he:exec Γ nid S (.H7 e i.size i.bytes zc y' z')=some (x,wr)):Good P E S a w o x wr:=by
 have ry:=h.eM hy;have rz:=h.eM hz';simp only[exec]at he;split at he
 ·rename_i k n k' m e1 e2;split at he
  ·rename_i hb;obtain⟨hnm,hn0,hby,hml⟩:=hb;obtain⟨rfl,rfl⟩:=bW he;rw[e1]at ry;rw[e2]at rz;have hv:=ry.eC;have hu:=rz.eC;obtain⟨i',v,hi',hv0,hs,hr⟩:=Bx (P:=P) (w:=w) (M:=bp E S L) (G:=S.gh L) hz;rw[hi]at hi';injection hi' with hi'
   subst hi';have hzl:zc.length=i.size:=by have:=hr.1;simp at this;omega
   have hle:n.toNat<=m.toNat:=by omega
   have hml':(madeCells v.cells (m.toNat*i.size)).toList=(List.replicate m.toNat v.cells.toList).flatten:=by
    unfold madeCells;rw[<-hs,KX v.cells (by omega)]
   have hcl:(madeCells v.cells (m.toNat*i.size)).toList.length=m.toNat*i.size:=by simp[madeCells]
   have hr0:aR w (bp E S L) (S.gh L) (List.replicate n.toNat (zc.map nz)).flatten ((madeCells v.cells (m.toNat*i.size)).toList.take ((List.replicate n.toNat (zc.map nz)).length*i.size)):=by
    rw[hml',List.length_replicate,show m.toNat=n.toNat+(m.toNat - n.toNat)by omega,<-List.replicate_append_replicate,List.flatten_append,List.take_left' (by rw[lO _ i.size fun u hu=>by rw[(List.mem_replicate.1 hu).2];simpa using hs,List.length_replicate])]
    exact xo hr.nz _
   obtain⟨L',h6,h7⟩:=h.RA (e:=e) (k:=i.size) (c:=m.toNat) hn (fun u hu=>by rw[(List.mem_replicate.1 hu).2,QC,hzl]) (by rw[List.length_replicate];exact hle) hml hcl hr0
   simp only[List.length_replicate]at h7;refine⟨_,_,L',_,?_,.inl rfl,h7,h6⟩
   have hbb:(i.bytes:Int)*m<=281474976710656:=by
    have h1:((m.toNat*i.bytes:Nat):Int)<=140737488355328:=by omega
    have h2:((m.toNat:Nat):Int)=m:=Int.toNat_of_nonneg (by omega)
    rw[Int.natCast_mul,h2,Int.mul_comm]at h1;omega
   have hm63:m<=9223372036854775807:=by simp only[maxLen]at hml;omega
   have:=run_make (P:=P) w t e i v ht hi hv0 k k' n m hn0 hnm hbb hm63;simp only[execOp,ho,hv,hu,Sem.run_bind,this,Result.andThen_ok,Sem.run_pure]
  ·cases he
 ·cases he
theorem Dn{t:TypeId}{y z:Operand}{b off:Nat}{cur:Array Value}{T:TypeId}{i:TypeInfo}(ho:o.op= .store t y z)(hi:P.info? t=some i)(hv:a.eval y= .pointer (some ⟨b,off,none⟩))(hh:w.heap[b]?=some (.cells cur T (0,0)))
  (hs:(a.eval z).cells.size=i.size) (hle:off+i.size<=cur.size) (h1:∀u∈(a.eval z).cells.toList,u.oneCell'=true):
  (execOp a.eval o).run P w= .ok .skip (w.setRow b (cur.toList.take off++(a.eval z).cells.toList++cur.toList.drop (off+i.size)).toArray):=by
 have:=run_storeCells_at (P:=P) b off T (a.eval z).cells.toList 0 cur w hh (by simp;omega) h1
 simp only[Nat.add_zero,Array.length_toList,hs]at this;simp[execOp,ho,hv,Instr.storeAt,Instr.sureAddr,storeVar,sizeOf,typeInfo,hi,hs,this]
theorem So{α:Type}(F c xs:List α)(k J off n:Nat)(hc:c.length=k)(hjk:J+k<=F.length)(hx:xs.length=n)(hle:off+n<=k)(hel:∀q,q<k->F[J+q]?=c[q]?):
  F.take J++(c.take off++xs++c.drop (off+n))++F.drop (J+k)=F.take (J+off)++xs++F.drop (J+off+n):=by
 have h1:F.take (J+off)=F.take J++c.take off:=by
  apply List.ext_getElem?;intro q
  by_cases q1:q<J
  ·rw[List.getElem?_append_left (by simp;omega),Qq67,Qr (by omega),Qq67,Qr q1]
  ·rw[List.getElem?_append_right (by simp;omega),Qq67,Qq67]
   have e:(F.take J).length=J:=by simp;omega
   rw[e]
   by_cases q2:q<J+off
   ·rw[Qr q2,Qr (by omega),<-hel _ (by omega)]
    congr 1;omega
   ·rw[Qs q2,Qs (by omega)]
 have h2:F.drop (J+off+n)=c.drop (off+n)++F.drop (J+k):=by
  apply List.ext_getElem?;intro q;rw[List.getElem?_drop]
  by_cases q1:q<k - (off+n)
  ·rw[List.getElem?_append_left (by simp;omega),List.getElem?_drop,<-hel _ (by omega)]
   congr 1;omega
  ·rw[List.getElem?_append_right (by simp;omega),List.getElem?_drop]
   have e:(c.drop (off+n)).length=k - (off+n):=by simp;omega
   rw[e];congr 1;omega
 rw[h1,h2];simp[QL]
theorem FX{α:Type}(cur xs:List α)(p n m:Nat)(hx:xs.length=n)(h1:p+n<=m)(h2:m<=cur.length):
  (cur.take p++xs++cur.drop (p+n)).take m=(cur.take m).take p++xs++(cur.take m).drop (p+n):=by
 rw[List.take_take,Nat.min_eq_left (by omega),List.take_append,List.take_of_length_le (by simp;omega)]
 congr 1;have e:(cur.take p++xs).length=p+n:=by simp;omega
 rw[e,List.drop_take]
theorem Z8(h:Rel E S a w L){t:TypeId}{y z:Operand}{y' z':bg}{i:TypeInfo}(ho:o.op= .store t y z)(hi:P.info? t=some i)(hy:bb y=some y')(hz:bb z=some z')
  (he:exec Γ nid S (.store i.size y' z')=some (x,wr)):Good P E S a w o x wr:=by
 have r:=h.eM hy;simp only[exec]at he;split at he
 ·rename_i hb;obtain⟨hl,h1⟩:=hb;have rz:=(h.eM hz).cells (fun u hu=>QH.1 h1 u hu)
  have hs:(a.eval z).cells.size=i.size:=by have:=rz.1.1;simp at this;omega
  split at he
  ·rename_i id ar off e;rw[e]at r;split at he
   ·rename_i hver;split at he
    ·rename_i cs hc;split at he
     ·rename_i hle;obtain⟨rfl,rfl⟩:=bW he;obtain⟨hN,_⟩:=r.mM (show(S.gh L).V id=ar from hver)
      obtain⟨b,hv,hL⟩:=h.nD r hver hc;obtain⟨b',cur,T,hL',hh,hr,hE⟩:=h.nf hN hc;rw[hL]at hL';simp only[Value.pointer.injEq,Qf,Addr.mk.injEq]at hL';obtain⟨rfl,_⟩:=hL';have hcl:cur.size=cs.length:=by have:=hr.1;simpa using this
      have hrun:=Dn (P:=P) ho hi hv hh hs (by omega) rz.2
      obtain⟨h2,hs2,hg⟩:=h.og (w':=w.setRow b (cur.toList.take off++(a.eval z).cells.toList++cur.toList.drop (off+i.size)).toArray) hN ⟨ar,.box (gz cs off (z'.val S).cells)⟩ (L id) (.inl ⟨hver.symm,rfl,by rw[hc];rfl⟩) rfl rfl rfl (by simp)
       (fun k hk hne=>setRow_other w b k _ (fun ek=>hne (by rw[hc];rfl) (by rw[hL,ek];rfl)))
       (fun k _ hk=> .inl ⟨by rw[hc];rfl,hk⟩)
       (fun hs2 hg=>⟨b,_,T,hL,setRow_heap w b cur _ T _ hh,hE,by
        have:=(hr.gz rz.1 off).mono hs2 hg
        simpa[hs]using this⟩)
      exact⟨_,_,_,undef,hrun,.inr ⟨rfl,rfl⟩,.undef,h2⟩
     ·cases he
    ·cases he
   ·cases he
  ·rename_i id ar k j off e;rw[e]at r;have rz1:=rz.1.nz;have hl1:((z'.val S).cells.map nz).length=i.size:=by simpa using hl
   split at he
   ·rename_i hver;split at he
    ·rename_i e0 k' es hc;split at he
     ·rename_i hk;subst hk;split at he
      ·rename_i c hcj;split at he
       ·rename_i hle;obtain⟨rfl,rfl⟩:=bW he;obtain⟨hN,hv⟩:=r.Hc (show(S.gh L).V id=ar from hver)
        obtain⟨vs,hown,hk,hr⟩:=h.iI hN hc;have hj:j<es.length:=(Qw.1 hcj).1;rcases hown.2 with⟨hL,h0⟩|⟨g,cap,cur,hL,hb1,hh,hnc,hcm,hcs,htake⟩
        ·omega
        rw[show(S.gh L).L id=L id from rfl,hL]at hv
        simp only[dS,Qe]at hv;have hck:c.length=k:=hk c (Q7 hcj)
        have hjk:j*k+k<=es.length*k:=by
         have:=Qq62 k (show j+1<=es.length by omega)
         rw[Qq72]at this;omega
        have hvl:vs.length=es.length*k:=hown.1;have hcapk:es.length*k<=cap*k:=Qq62 _ hnc;have hrun:=Dn (P:=P) ho hi hv hh hs (by omega) rz.2
        have hsl:(gz c off ((z'.val S).cells.map nz)).length=k:=by simp[gz,hl1];omega
        have hk2:∀u∈es.set j (gz c off ((z'.val S).cells.map nz)),u.length=k:=by
         intro u hu;rcases List.mem_or_eq_of_mem_set hu with hu|hu
         ·exact hk u hu
         ·rw[hu,hsl]
        have hz2:((z'.val S).cells.map nz).length=(a.eval z).cells.toList.length:=rz1.1.symm
        have hfl:(es.set j (gz c off ((z'.val S).cells.map nz))).flatten=gz es.flatten (j*k+off) ((z'.val S).cells.map nz):=by
         rw[Az es k j _ hk hsl hj,hsl];unfold gz;rw[hl1];exact So es.flatten c ((z'.val S).cells.map nz) k (j*k) off i.size hck (by rw[lO es k hk];exact hjk) hl1 (by omega) (rL es k j c hk hcj)
        have hset:(w.setRow g (cur.toList.take (j*k+off)++(a.eval z).cells.toList++cur.toList.drop (j*k+off+i.size)).toArray).ownsRow (gd E (L id)) e0 k (L id) (es.set j (gz c off ((z'.val S).cells.map nz))).length (vs.take (j*k+off)++(a.eval z).cells.toList++vs.drop (j*k+off+i.size)):=by
         refine⟨by simp[hvl,hs];omega,.inr ⟨g,cap,_,by rw[hL];simp,hb1,setRow_heap w g cur _ e0 _ hh,by simpa using hnc,hcm,by simp[hcs,hs];omega,?_⟩⟩
         simp only[QX];rw[<-htake];simpa using FX cur.toList (a.eval z).cells.toList (j*k+off) i.size (es.length*k) (by simpa using hs) (by omega) (by simp[hcs];omega)
        obtain⟨h2,hs2,hg⟩:=h.og (w':=w.setRow g (cur.toList.take (j*k+off)++(a.eval z).cells.toList++cur.toList.drop (j*k+off+i.size)).toArray) hN ⟨ar,.row e0 k (es.set j (gz c off ((z'.val S).cells.map nz)))⟩ (L id) (.inl ⟨hver.symm,rfl,by rw[hc];rfl⟩) rfl rfl rfl (by simp)
         (fun q hq hne=>setRow_other w g q _ (fun ek=>hne (by rw[hc];rfl) (by rw[hL,ek];rfl)))
         (fun q _ hq=> .inl ⟨by rw[hc];rfl,hq⟩)
         (fun hs2 hg=>⟨_,hset,hk2,by
          rw[hfl];have:=(hr.gz rz1 (j*k+off)).mono hs2 hg
          simpa[hs]using this⟩)
        exact⟨_,_,_,undef,hrun,.inr ⟨rfl,rfl⟩,.undef,h2⟩
       ·cases he
      ·cases he
     ·cases he
    ·cases he
   ·cases he
  ·cases he
 ·cases he
end
end
section
open Go.RowKit
section
variable {P : Program} {E : En} {S : St} {a : Act} {w : World} {L : Nat -> Value} {o : Oper} {x : PV} {wr : Option (Nat × fc)} {Γ : nk} {nid : Nat}
theorem yd(h:Rel E S a w L){y:Option Operand}{y':Option bg}(hy:y.mapM bb=some y'){d n:Int}(hn:pS S y' d=some n):
  (y=none/\n=d)\/∃z k,y=some z/\a.eval z= .int k n:=by
 cases y with
 |none=>
  simp at hy;subst hy;simp only[pS,Qf]at hn;exact .inl ⟨rfl,hn.symm⟩
 |some z=>
  simp only[Option.mapM_some,Option.map_eq_map,Qb]at hy;obtain⟨z',hz,rfl⟩:=hy;have r:=h.eM hz;simp only[pS]at hn;split at hn
  ·rename_i k m e;rw[e]at r;injection hn with hn
   subst hn;exact .inr ⟨z,k,rfl,r.eC⟩
  ·cases hn
theorem qL{α:Type}(k:Nat):∀(m:Nat) (fs:List (List α)),(∀u∈fs,u.length=k)->(fs.take m).flatten=fs.flatten.take (m*k)
 |0,fs,_=>by simp
 |m+1,[],_=>by simp
 |m+1,u::us,hf=>by
  have hu:u.length=k:=hf u (by simp)
  simp only[List.take_succ_cons,List.flatten_cons,qL k m us (fun q hq=>hf q (by simp[hq]))]
  rw[Qq72,Nat.one_mul,Nat.add_comm,<-hu,List.take_length_add_append]
theorem yU{α:Type}(k:Nat):∀(m:Nat) (fs:List (List α)),(∀u∈fs,u.length=k)->(fs.drop m).flatten=fs.flatten.drop (m*k)
 |0,fs,_=>by simp
 |m+1,[],_=>by simp
 |m+1,u::us,hf=>by
  have hu:u.length=k:=hf u (by simp)
  simp only[List.drop_succ_cons,List.flatten_cons,yU k m us (fun q hq=>hf q (by simp[hq]))]
  rw[Qq72,Nat.one_mul,Nat.add_comm,<-hu,List.drop_length_add_append]
theorem EU{t e:TypeId}{y:Operand}{lo hi:Option Operand}{i:TypeInfo}{ad:Option Addr}{n c:Nat}{l h:Int}(ho:o.op= .slice t y lo hi none)(ht:P.underlying t=some (.slice e))(hi':P.info? e=some i)
  (hv:a.eval y= .slice ad n c) (hlo:(lo=none/\l=0)\/∃z k,lo=some z/\a.eval z= .int k l) (hhi:(hi=none/\h=n)\/∃z k,hi=some z/\a.eval z= .int k h) (h0:0<=l) (h1:l<=h) (h2:h<=n) (h3:n<=c):
  (execOp a.eval o).run P w= .ok (.value (.slice (if c=l.toNat then ad else ad.map (·.add (l.toNat*i.size))) (h.toNat - l.toNat) (c - l.toNat))) w:=by
 have e1:0<=h:=by omega
 have e2:h<=(c:Int):=by omega
 have e3:l<=((h.toNat:Nat):Int):=by omega
 rcases hlo with⟨rfl,rfl⟩|⟨z,k,rfl,hz⟩<;>rcases hhi with⟨rfl,rfl⟩|⟨z2,k2,rfl,hz2⟩<;>
  simp[execOp,Instr.sliceAt,Instr.slice,run_underlying ht,Instr.sliceBounds,Instr.sliceBound,asIntOf,sizeOf,typeInfo, *]<;>omega
theorem adE(h:Rel E S a w L){t e:TypeId}{y:Operand}{lo hi:Option Operand}{y':bg}{lo' hi':Option bg}{i:TypeInfo}(ho:o.op= .slice t y lo hi none)(ht:P.underlying t=some (.slice e))(hi0:P.info? e=some i)
  (hy:bb y=some y') (hlo:lo.mapM bb=some lo') (hhi:hi.mapM bb=some hi') (he:exec Γ nid S (.Dh i.size y' lo' hi')=some (x,wr)):Good P E S a w o x wr:=by
 have r:=h.eM hy;simp only[exec]at he;split at he
 ·rename_i es e0;rw[e0]at r;split at he
  ·rename_i hall;have hall':∀u∈es,u.length=i.size:=fun u hu=>by have:=QH.1 hall u hu;simpa using this
   split at he
   ·rename_i l hh el eh;split at he
    ·rename_i hb;obtain⟨hb0,hb1,hb2⟩:=hb;obtain⟨rfl,rfl⟩:=bW he;have hl:=yd h hlo (d:=0) (n:=l) (by unfold pS;exact el)
     have hh':=yd h hhi (d:=(es.length:Int)) (n:=hh) (by unfold pS;exact eh)
     have hlen:((es.take hh.toNat).drop l.toNat).length=hh.toNat - l.toNat:=by simp;omega
     rcases r.yo with⟨hv,h0⟩|⟨ad,c,k,vs,hv,hk,hr,hc,hn,hm⟩
     ·subst h0;refine Good.pure h (EU (n:=0) ho ht hi0 hv hl (by simpa using hh') hb0 hb1 (by simpa using hb2) (QI _)) ?_
      have e1:hh=0:=by simp at hb2;omega
      have e2:l=0:=by omega
      subst e1 e2;simpa using aW.slnil
     ·refine Good.pure h (EU ho ht hi0 hv hl hh' hb0 hb1 hb2 hn) ?_;rw[<-hlen];have hkk:∀u∈(es.take hh.toNat).drop l.toNat,u.length=i.size:=fun u hu=>hall' u (Q0 (Q1 hu))
      have hfl:((es.take hh.toNat).drop l.toNat).flatten=(es.flatten.take (hh.toNat*i.size)).drop (l.toNat*i.size):=by
       have t1:∀(m:Nat) (fs:List (List PV)),(∀u∈fs,u.length=i.size)->(fs.take m).flatten=fs.flatten.take (m*i.size):=by
        intro m
        induction m with
        |zero=>intro fs _;simp
        |succ m ih=>
         intro fs hf
         cases fs with
         |nil=>simp
         |cons u us=>
          have hu:u.length=i.size:=hf u (by simp)
          simp only[List.take_succ_cons,List.flatten_cons,ih us (fun q hq=>hf q (by simp[hq]))]
          rw[Qq72,Nat.one_mul,Nat.add_comm,<-hu,List.take_length_add_append]
       have t2:∀(m:Nat) (fs:List (List PV)),(∀u∈fs,u.length=i.size)->(fs.drop m).flatten=fs.flatten.drop (m*i.size):=by
        intro m
        induction m with
        |zero=>intro fs _;simp
        |succ m ih=>
         intro fs hf
         cases fs with
         |nil=>simp
         |cons u us=>
          have hu:u.length=i.size:=hf u (by simp)
          simp only[List.drop_succ_cons,List.flatten_cons,ih us (fun q hq=>hf q (by simp[hq]))]
          rw[Qq72,Nat.one_mul,Nat.add_comm,<-hu,List.drop_length_add_append]
       rw[t2 _ _ (fun u hu=>hall' u (Q0 hu)),t1 _ _ hall']
      have hr2:=(hr.take (hh.toNat*i.size)).drop (l.toNat*i.size);rw[<-hfl]at hr2
      by_cases hcl:c=l.toNat
      ·have hnil:(es.take hh.toNat).drop l.toNat=[]:=Qq66 (by rw[hlen];omega)
       rw[Qr hcl,hnil];exact .sl [] ad _ i.size [] (by simp) (by simp) (fun j u hu=>by simp at hu) (fun j p u hp=>by simp at hp) (QS _) (by omega)
      ·rw[Qs hcl];simp only[Qe];refine .sl _ _ _ i.size _ hkk hr2.1 (fun j u hu=> ?_) hr2.2 (by rw[hlen];omega) (by omega)
       rw[add_add,qP];have h4:=fF hu;rw[Qq67]at h4;split at h4
       ·exact hc _ u h4
       ·cases h4
    ·cases he
   ·cases he
  ·cases he
 ·rename_i id ar e0;rw[e0]at r;split at he
  ·rename_i hver;split at he
   ·rename_i e1 k' es hcc;split at he
    ·rename_i hkk;subst hkk;split at he
     ·rename_i l hh el eh;split at he
      ·rename_i hb;obtain⟨hb0,hb1,hb2⟩:=hb;obtain⟨rfl,rfl⟩:=bW he;obtain⟨hN,hv⟩:=r.kR (show(S.gh L).V id=ar from hver)
       obtain⟨vs,hown,hk,hr⟩:=h.iI hN hcc;have hl:=yd h hlo (d:=0) (n:=l) el;have hh':=yd h hhi (d:=(es.length:Int)) (n:=hh) eh
       have hL:∃ad c,L id= .slice ad es.length c/\es.length<=c:=by
        rcases hown.2 with⟨hL,h0⟩|⟨g,cap,cur,hL,_,_,hnc,_⟩
        ·exact⟨none,0,by rw[hL,h0],by omega⟩
        ·exact⟨_,cap,hL,hnc⟩
       obtain⟨ad,c,hL,hc⟩:=hL;rw[show(S.gh L).L id=L id from rfl,hL]at hv
       refine Good.pure h (EU ho ht hi0 hv hl hh' hb0 hb1 hb2 hc) ?_;refine .view _ _ _ _ _ _ _ hN (Nat.le_of_eq hver.symm) (fun _=>⟨ad,es.length,c,hL,by omega,hc,rfl,?_⟩)
       by_cases h0:c=l.toNat
       ·rw[Qr h0]
        by_cases h1:l.toNat=0
        ·right;rw[h1];cases ad<;>simp[Addr.add]
        ·left;exact⟨by omega,h1,fun e=>e⟩
       ·rw[Qs h0];right;rfl
      ·cases he
     ·cases he
    ·cases he
   ·cases he
  ·cases he
 ·rename_i id ar k0 lo0 n0 e0;rw[e0]at r;split at he
  ·rename_i hver;split at he
   ·rename_i e1 k' es hcc;split at he
    ·rename_i hkk;obtain⟨hk1,hk2⟩:=hkk;subst hk2;split at he
     ·rename_i l hh el eh;split at he
      ·rename_i hb;obtain⟨hb0,hb1,hb2⟩:=hb;obtain⟨rfl,rfl⟩:=bW he;obtain⟨hN,ad,c,hv,a0,m0,c0,hL,q1,q2,q3,q4⟩:=r.vF (show(S.gh L).V id=ar from hver)
       have hl:=yd h hlo (d:=0) (n:=l) el;have hh':=yd h hhi (d:=(n0:Int)) (n:=hh) eh;refine Good.pure h (EU ho ht hi0 hv hl hh' hb0 hb1 hb2 (by omega)) ?_
       refine .view _ _ _ _ _ _ _ hN (Nat.le_of_eq hver.symm) (fun _=>⟨a0,m0,c0,hL,by omega,q2,by omega,?_⟩)
       by_cases h0:c=l.toNat
       ·rw[Qr h0]
        by_cases h1:lo0+l.toNat=0
        ·right;rcases q4 with q4|q4
         ·omega
         ·rw[q4];have e1:lo0=0:=by omega
          have e2:l.toNat=0:=by omega
          rw[e1,e2]
        ·left;refine⟨by omega,h1,fun e=> ?_⟩
         rcases q4 with q4|q4
         ·exact q4.2.2 e
         ·rw[q4]at e;cases a0<;>first|rfl|cases e
       ·rw[Qs h0];rcases q4 with q4|q4
        ·left;refine⟨by omega,by omega,fun e=>q4.2.2 ?_⟩
         cases ad<;>first|rfl|cases e
        ·right;rw[q4];cases a0<;>simp[add_add,Qq72]
      ·cases he
     ·cases he
    ·cases he
   ·cases he
  ·cases he
 ·cases he
theorem FD{base:Nat}{t ty e:TypeId}{i:TypeInfo}{size:Nat}(ht:P.underlying t=some (.slice e))(hi:P.info? e=some i)
  {v:Value} {n:Nat} {xs:List Value} (hown:w.ownsRow base e size v n xs) (c:Nat):(Builtin.append_ #[t,t] ty #[v,.slice none 0 c]).run P w= .ok v w:=by
 rcases hown.2 with⟨rfl,rfl⟩|⟨g,cap,cur,rfl,_,_,hnc,_⟩
 ·simp[Builtin.append_,run_underlying ht,sizeOf,typeInfo,hi,Builtin.lenOf,Builtin.firstCells]
 ·simp[Builtin.append_,run_underlying ht,sizeOf,typeInfo,hi,Builtin.lenOf,Builtin.firstCells,hnc,storeCells]
theorem Rel.AD(h:Rel E S a w L){y:PV}{v:Value}{es:List (List PV)}(r:aW w (bp E S L) (S.gh L) y v)(he:ig S y=some es):
  (v= .slice none 0 0/\es=[])\/∃(ad:Addr) (c:Nat) (vs:List Value),v= .slice (some ad) es.length c/\aR w (bp E S L) (S.gh L) es.flatten vs/\(∀(i:Nat) (u:Value),vs[i]?=some u->w.cell? (ad.add i)=some u):=by
 unfold ig at he;split at he
 ·injection he with he;subst he;exact .inl ⟨r.oX,rfl⟩
 ·injection he with he;subst he
  rcases r.yo with⟨hv,h0⟩|⟨ad,c,k,vs,hv,hk,hr,hc,_⟩
  ·exact .inl ⟨hv,h0⟩
  ·exact .inr ⟨ad,c,vs,hv,hr.mono (dj.of fun _ hm=>hm) (dm.le _),fun i u hu=>(hc i u hu).1⟩
 ·rename_i id ar;split at he
  ·rename_i hver;split at he
   ·rename_i hc;injection he with he;subst he
    obtain⟨hN,hv⟩:=r.kR (show(S.gh L).V id=ar from hver)
    obtain⟨vs,hown,hk,hr⟩:=h.iI hN hc;rcases hown.2 with⟨hL,h0⟩|⟨g,cap,cur,hL,_,hh,_,_,_,htake⟩
    ·exact .inl ⟨by rw[hv];exact hL,Qq66 h0⟩
    ·refine .inr ⟨⟨g,0,none⟩,cap,vs,by rw[hv];exact hL,hr,fun i u hu=> ?_⟩
     exact hown.cells (g:=g) (by rw[hL];rfl) i u hu
   ·cases he
  ·cases he
 ·rename_i id ar k lo n;split at he
  ·rename_i hver;split at he
   ·rename_i e1 k' es0 hc;split at he
    ·rename_i hb;subst hb;injection he with he;subst he
     obtain⟨hN,ad,c,hv,hat⟩:=r.vF (show(S.gh L).V id=ar from hver)
     have hb:=h.EJ hN hc hat;obtain⟨a0,m0,c0,hL,q1,q2,q3,q4⟩:=hat;obtain⟨vs,hown,hk,hr⟩:=h.iI hN hc;have hL:L id= .slice a0 m0 c0:=hL;have hlen:((es0.drop lo).take n).length=n:=by simp;omega
     rcases hown.2 with⟨hL',h0⟩|⟨g,cap,cur,hL',_,hh,_,_,_,htake⟩
     ·have:es0=[]:=Qq66 h0;subst this;rw[hL']at hL;injection hL with e1 e2 e3
      subst e1 e2 e3;left;have hn0:n=0:=by omega
      have hl0:lo=0:=by omega
      subst hn0 hl0;rcases q4 with q4|q4
      ·exact absurd rfl q4.2.1
      ·subst q4;rw[hv,q3];exact⟨by simp,by simp⟩
     ·rw[hL']at hL;injection hL with e1 e2 e3
      subst e1 e2 e3
      have hfl:((es0.drop lo).take n).flatten=(es0.flatten.drop (lo*k')).take (n*k'):=by
       rw[qL k' n _ (fun u hu=>hk u (Q1 hu)),yU k' lo _ hk]
      have hr2:=(hr.drop (lo*k')).take (n*k');rw[<-hfl]at hr2
      by_cases hn0:n=0
      ·subst hn0
       cases ad with
       |none=>
        rcases q4 with q4|q4
        ·cases q4.2.2 rfl
        ·cases q4
       |some ad=>
        right;exact⟨ad,c,[],by rw[hv];simp,by simpa using aR.nil,fun i u hu=>by simp at hu⟩
      ·rcases q4 with q4|q4
       ·omega
       ·right;refine⟨⟨g,lo*k',none⟩,c,_,by rw[hv,hlen,q4];simp[add_mid],hr2,fun i u hu=> ?_⟩
        rw[add_mid];refine o5 hh ?_;rw[Qq67]at hu;split at hu
        ·have hu:=fF hu;rw[<-htake,Qq67]at hu;split at hu
         ·exact hu
         ·cases hu
        ·cases hu
    ·cases he
   ·cases he
  ·cases he
 ·cases he
theorem qw{v:Value}{ad:Option Addr}{n c:Nat}(h:v= .slice ad n c):v.ownBlock=dS v:=by subst h;cases ad<;>rfl
theorem O1{P:Program}(w:World)(base:Nat)(t ty e:TypeId)(i:TypeInfo)(z:Value)(size bytes:Nat)(ht:P.underlying t=some (.slice e))(hi:P.info? e=some i)(hz:i.zero=some z)
  (hsize:i.size=size) (hby:i.bytes=bytes) (hsz:0<size)
  (v:Value) (n:Nat) (xs:List Value) (hown:w.ownsRow base e size v n xs)
  (a:Addr) (m c:Nat) (news:List Value) (hl:news.length=m*size) (hnews:∀j u,news[j]?=some u->w.cell? (a.add j)=some u) (h1:∀u∈news,u.oneCell'=true)
  (h63:n+m<=maxLen) (hbytes:(n+m)*bytes<=140737488355328) {v':Value} {w':World} (hrun:(Builtin.append_ #[t,t] ty #[v,.slice (some a) m c]).run P w= .ok v' w'):w.drawn<=w'.drawn:=by
 subst hsize;subst hby;have hsmall:n+m<=9223372036854775807:=by simp only[maxLen]at h63;omega
 have fin:∀{u:Value} {W:World},(Builtin.append_ #[t,t] ty #[v,.slice (some a) m c]).run P w= .ok u W->w.drawn<=W.drawn->w.drawn<=w'.drawn:=fun h hd=>by
  rw[h]at hrun;injection hrun with _ h2
  rw[<-h2];exact hd
 rcases hown.2 with⟨rfl,rfl⟩|⟨g,cap,cur,rfl,hbg,hg,hnc,hcm,hcs,htake⟩
 ·by_cases hm:m=0
  ·subst hm;have hn:news=[]:=Qq66 (by simpa using hl)
   refine fin (u:= .slice none 0 0) (W:=w) ?_ (QI _);simp[Builtin.append_,run_underlying ht,sizeOf,typeInfo,hi,Builtin.lenOf,Builtin.firstCells,loadCells,loadCellsFrom]
  ·exact fin (run_append_nil (P:=P) w t ty e i z ht hi hz a m c news hl hnews (by omega) (by omega) (by have hb:=hbytes;simp only[Nat.zero_add]at hb;omega)) (Nat.le_succ _)
 ·by_cases hroom:n+m<=cap
  ·have hfit:n*i.size+news.length<=cur.size:=by rw[hl,hcs,<-Qq72];exact Qq62 _ hroom
   exact fin (run_append_room (P:=P) w t ty e i ht hi g n cap cur hg a m c news hl hnews h1 hroom hfit) (QI _)
  ·have holds:∀j u,xs[j]?=some u->w.cell? ((⟨g,0,none⟩:Addr).add j)=some u:=hown.cells (g:=g) rfl;exact fin (run_append_grow (P:=P) w t ty e i z ht hi hz ⟨g,0,none⟩ n cap xs hown.1 holds a m c news hl hnews (by omega) (by omega) (growslice_fits (by omega) hbytes)) (Nat.le_succ _)
theorem YL(h:Rel E S a w L)(hn:nid<S.N){t e:TypeId}{y z:Operand}{y' z':bg}{i:TypeInfo}{zv:Value}(ho:o.op= .call {callee:= .builtin .append,args:=#[y,z],argTypes:=#[t,t]})(ht:P.underlying t=some (.slice e))(hi:P.info? e=some i)
  (hzv:i.zero=some zv) (hzs:zv.cells.size=i.size) (hsz:0<i.size) (hy:bb y=some y') (hz:bb z=some z') (he:exec Γ nid S (.cZ false e i.size i.bytes y' z')=some (x,wr)):Good P E S a w o x wr:=by
 have ry:=h.eM hy;have rz:=h.eM hz
 have hexec:∀(r:Result Value),(Builtin.append_ #[t,t] o.type #[a.eval y,a.eval z]).run P w=r->(execOp a.eval o).run P w=r.andThen fun v w'=> .ok (.value v) w':=by
  intro r hr;simp[execOp,ho,resolve,invoke,builtin,hr]
 simp only[exec,EA]at he;split at he
 ·rename_i news hnews;split at he
  ·rename_i hall;have hall':∀u∈news,u.length=i.size/\u.all PV.one=true:=fun u hu=>by have:=QH.1 hall u hu;simpa using this
   have hnl:news.flatten.length=news.length*i.size:=lO news i.size (fun u hu=>(hall' u hu).1)
   have hone:∀{vs:List Value},aR w (bp E S L) (S.gh L) news.flatten vs->∀u∈vs,u.oneCell'=true:=by
    intro vs hr u hu;obtain⟨q,hq,rfl⟩:=List.mem_iff_getElem.1 hu;have hx:q<news.flatten.length:=by rw[<-hr.1];exact hq
    have hm:news.flatten[q]∈news.flatten:=QZ hx;obtain⟨el,hel,hmem⟩:=List.mem_flatten.1 hm;exact((hr.2 q _ _ (Qv hx) (Qv hq)).one (QH.1 (hall' el hel).2 _ hmem)).1
   have main:∀(id0:Nat) (hid:id0<S.N) (es:List (List PV)) (ver':Nat) (v:Value) (vs:List Value),a.eval y=v->w.ownsRow (gd E v) e i.size v es.length vs->aR w (bp E S L) (S.gh L) es.flatten vs->
     (∀u∈es,u.length=i.size)->(S.H id0).ar<ver'->(∀b,v.ownBlock=some b->(S.H id0).c.live=true/\dS (L id0)=some b)->es.length+news.length<=maxLen->(es.length+news.length)*i.bytes<=140737488355328->
     Good P E S a w o (.own id0 ver') (some (id0,⟨ver',.row e i.size (es++news)⟩)):=by
    intro id0 hid es ver' v vs hv hown hr hk hver hblk hmax hby
    have hk2:∀u∈es++news,u.length=i.size:=fun u hu=>by
     rcases Qz.1 hu with hu|hu
     ·exact hk u hu
     ·exact(hall' u hu).1
    have hrun:∃v' w' us,(Builtin.append_ #[t,t] o.type #[a.eval y,a.eval z]).run P w= .ok v' w'/\w'.ownsRow (gd E v) e i.size v' (es.length+news.length) (vs++us)/\w.grownBy w' v.ownBlock/\
      (v'.ownBlock=v.ownBlock\/v'.ownBlock=some w.heap.size)/\aR w (bp E S L) (S.gh L) news.flatten us/\w.drawn<=w'.drawn:=by
     rcases h.AD rz hnews with⟨hvz,hnil⟩|⟨ad,c,us,hvz,hrz,hcz⟩
     ·subst hnil;refine⟨v,w,[],by rw[hv,hvz];exact FD ht hi hown 0,by simpa using hown,World.grownBy.refl w _,.inl rfl,aR.nil,QI _⟩
     ·have hus:us.length=news.length*i.size:=by rw[hrz.1,hnl]
      obtain⟨v',w',h1,h2,h3,_,h5⟩:=run_append_own_at (P:=P) w (gd E v) t o.type e i zv i.size i.bytes ht hi hzv rfl rfl hzs hsz v es.length vs hown ad news.length c us hus hcz (hone hrz) hmax hby (QK (HK E v) h.fr.size);exact⟨v',w',us,by rw[hv,hvz];exact h1,h2,h3,h5,hrz,O1 w (gd E v) t o.type e i zv i.size i.bytes ht hi hzv rfl rfl hsz v es.length vs hown ad news.length c us hus hcz (hone hrz) hmax hby h1⟩
    obtain⟨v',w',us,hr1,hown',hgr,hat,hru,hdrw⟩:=hrun
    have hv':∃ad n c,v'= .slice ad n c:=by
     rcases hown'.2 with⟨rfl,_⟩|⟨g,cap,cur,rfl,_⟩
     ·exact⟨_,_,_,rfl⟩
     ·exact⟨_,_,_,rfl⟩
    obtain⟨ad',n',c',hv'⟩:=hv'
    have hvb:∃ad n c,v= .slice ad n c:=by
     rcases hown.2 with⟨rfl,_⟩|⟨g,cap,cur,rfl,_⟩
     ·exact⟨_,_,_,rfl⟩
     ·exact⟨_,_,_,rfl⟩
    obtain⟨ad0,n0,c0,hv0⟩:=hvb
    have hown':w'.ownsRow (gd E v') e i.size v' (es.length+news.length) (vs++us):=by
     rcases hat with hat|hat
     ·rw[xn (v:=v') (v':=v) (by rw[<-qw hv',<-qw hv0,hat])]
      exact hown'
     ·refine⟨hown'.1,?_⟩;rcases hown'.2 with hnil|⟨g,cap,cur,e1,e2,e3⟩
      ·exact .inl hnil
      ·rw[qw hv']at hat;have hg:g=w.heap.size:=by rw[e1]at hat;simpa[dS]using hat
       refine .inr ⟨g,cap,cur,e1,?_,e3⟩;rw[FY hat h.fr.size,hg];exact h.fr.size
    obtain⟨h2,hs2,hg2⟩:=h.og (w':=w') (hdr:=DL.of hdrw) hid ⟨ver',.row e i.size (es++news)⟩ v' (.inr hver) hgr.os hgr.tape hgr.output hgr.size
     (fun b hb hne=>hgr.block b hb (fun eb=>by
      obtain⟨q1,q2⟩:=hblk b eb.symm
      exact hne q1 q2))
     (fun b _ hb=>by
      rw[<-qw hv']at hb;rcases hat with hat|hat
      ·rw[hat]at hb;exact .inl (hblk b hb)
      ·rw[hat]at hb;injection hb with hb
       exact .inr (by omega))
     (fun hs2 hg2=>⟨vs++us,by simpa using hown',hk2,by simp only[List.flatten_append];exact(hr.append hru).mono hs2 hg2⟩)
    refine⟨_,w',_,v',by rw[hexec _ hr1];rfl,.inl rfl,?_,h2⟩
    subst hv';exact .own _ _ _ _ _ hid (by simp[St.gh,St.ei,ca]) (fun _=>by simp[St.gh,St.ei,ca])
   split at he
   ·rename_i ey;rw[ey]at ry;split at he
    ·rename_i hb;obtain⟨rfl,rfl⟩:=bW he;have:=main nid hn [] ((S.H nid).ar+1) (.slice none 0 0) [] ry.oX (World.ownsRow_nil w _ _ _) aR.nil (by simp) (Nat.lt_succ_self _) (fun b hb=>by simp[Value.ownBlock]at hb) (by simpa using hb.2) (by simpa using hb.1)
     simpa using this
    ·cases he
   ·rename_i id ar ey;rw[ey]at ry;split at he
    ·rename_i hver;split at he
     ·rename_i e' k' es hc;split at he
      ·rename_i hb;obtain⟨rfl,rfl,hby,hmax⟩:=hb;obtain⟨rfl,rfl⟩:=bW he;obtain⟨hN,hv⟩:=ry.kR (show(S.gh L).V id=ar from hver)
       obtain⟨vs,hown,hk,hr⟩:=h.iI hN hc
       have hLs:∃ad n c,L id= .slice ad n c:=by
        rcases hown.2 with⟨hL,_⟩|⟨g,cap,cur,hL,_⟩
        ·exact⟨_,_,_,hL⟩
        ·exact⟨_,_,_,hL⟩
       obtain⟨ad0,n0,c0,hL0⟩:=hLs;exact main id hN es (ar+1) (L id) vs hv hown hr hk (by omega) (fun b hb=>⟨by rw[hc];rfl,by rw[qw hL0]at hb;exact hb⟩) hmax hby
      ·cases he
     ·cases he
    ·cases he
   ·cases he
  ·cases he
 ·cases he
theorem LI{P:Program}(w:World)(dT sT ty elem:TypeId)(g o dLen dCap:Nat)(a:Addr)(sLen sCap:Nat)(cur:Array Value)(t:TypeId)(cs:List Value)(size n:Nat)
  (hu:P.underlying dT=some (.slice elem)) (hs:(P.info? elem).map (·.size)=some size)
  (hg:w.heap[g]?=some (.cells cur t (0,0))) (hn:n=Nat.min sLen dLen) (hcl:cs.length=n*size)
  (hsrc:∀(j:Nat) (v:Value),cs[j]?=some v->w.cell? (a.add j)=some v) (hfit:o+cs.length<=cur.size) (h1:∀v∈cs,v.oneCell'=true):
  (Builtin.copy_ #[dT,sT] ty #[.slice (some ⟨g,o,none⟩) dLen dCap,.slice (some a) sLen sCap]).run P w=
   .ok (goInt n) (w.setRow g (cur.toList.take o++cs++cur.toList.drop (o+cs.length)).toArray):=by
 have hl:=run_loadCells_list (P:=P) w a cs hsrc;have hst:=run_storeCells_at P g o t cs 0 cur w hg (by simpa using hfit) h1
 rw[hcl]at hl
 cases hq:P.info? elem with
 |none=>simp[hq]at hs
 |some i=>
  have hi:i.size=size:=by simpa[hq]using hs
  simp[Builtin.copy_,run_underlying hu,Builtin.lenOf,Builtin.firstCells,sizeOf,typeInfo,hq,hi,<-hn,hl,hst]
theorem LH{P:Program}(w:World)(dT sT ty elem:TypeId)(d a:Option Addr)(dLen dCap sLen sCap:Nat){i:TypeInfo}(hu:P.underlying dT=some (.slice elem))(hq:P.info? elem=some i)(hn:Nat.min sLen dLen=0):
  (Builtin.copy_ #[dT,sT] ty #[.slice d dLen dCap,.slice a sLen sCap]).run P w= .ok (goInt 0) w:=by
 have hl:∀(x:Addr),(loadCells x 0).run P w= .ok #[] w:=fun x=>by simpa using run_loadCells_list (P:=P) w x [] (by simp)
 cases d<;>cases a<;>simp[Builtin.copy_,run_underlying hu,Builtin.lenOf,Builtin.firstCells,sizeOf,typeInfo,hq,hn,storeCells,hl]
theorem adN(h:Rel E S a w L){t e:TypeId}{y z:Operand}{y' z':bg}{i:TypeInfo}(ho:o.op= .call {callee:= .builtin .copy,args:=#[y,z],argTypes:=#[t,t]})(ht:P.underlying t=some (.slice e))(hi:P.info? e=some i)
  (hy:bb y=some y') (hz:bb z=some z') (he:exec Γ nid S (.Gv e i.size y' z')=some (x,wr)):Good P E S a w o x wr:=by
 have ry:=h.eM hy;have rz:=h.eM hz;simp only[exec]at he;split at he
 ·cases he
 rename_i ys hys
 have main:∀(id ar:Nat) (es:List (List PV)) (lo n c:Nat) (ad:Option Addr),id<S.N->(S.H id).ar=ar->(S.H id).c= .row e i.size es->a.eval y= .slice ad n c->lo+n<=es.length->
   (n≠0->∃g m0 c0,L id= .slice (some ⟨g,0,none⟩) m0 c0/\ad=some ⟨g,lo*i.size,none⟩)->ys.all (fun u=>u.length==i.size&&u.all PV.one)=true->
   Good P E S a w o (.int .i64 (min n ys.length:Nat)) (some (id,⟨ar,.row e i.size (ll es lo n ys)⟩)):=by
  intro id ar es lo n c ad hN hver hc hv hlen hat hall;have hall':∀u∈ys,u.length=i.size/\u.all PV.one=true:=fun u hu=>by have:=QH.1 hall u hu;simpa using this
  obtain⟨vs,hown,hk,hr⟩:=h.iI hN hc
  have hexec:∀{w':World} {u:Value},(Builtin.copy_ #[t,t] o.type #[a.eval y,a.eval z]).run P w= .ok u w'->(execOp a.eval o).run P w= .ok (.value u) w':=by
   intro w' u hr;simp[execOp,ho,resolve,invoke,builtin,hr]
  have hsrc:=h.AD rz hys
  by_cases hm:min n ys.length=0
  ·have hsame:ll es lo n ys=es:=by
    have h1:ys.take n=[]:=by
     rcases Nat.eq_zero_or_pos n with h0|h0
     ·rw[h0];rfl
     ·rw[Qq66 (l:=ys) (by omega)];simp
    rw[ll,h1,hm];simp
   rw[hsame,hm]
   obtain⟨h2,hs2,hg⟩:=h.og (w':=w) hN ⟨ar,.row e i.size es⟩ (L id) (.inl ⟨hver.symm,rfl,by rw[hc];rfl⟩) rfl rfl rfl (QI _)
    (fun q hq _=>rfl) (fun q _ hq=> .inl ⟨by rw[hc];rfl,hq⟩) (fun hs2 hg=>⟨vs,hown,hk,hr.mono hs2 hg⟩)
   have hz':∃ad' c',a.eval z= .slice ad' ys.length c':=by
    rcases hsrc with⟨h1,h2⟩|⟨ad',c',us,h1,_⟩
    ·exact⟨none,0,by rw[h1,h2];rfl⟩
    ·exact⟨some ad',c',h1⟩
   obtain⟨ad',c',hz'⟩:=hz';refine⟨_,w,_,goInt 0,hexec ?_,.inl rfl,.int _ _,h2⟩;rw[hv,hz'];exact LH w t t o.type e ad ad' n c ys.length c' ht hi (by show min ys.length n=0;omega)
  ·rcases hsrc with⟨h1,h2⟩|⟨ad',c',us,hvz,hrz,hcz⟩
   ·rw[h2]at hm;simp at hm
   obtain⟨g0,m0,c0,hL,rfl⟩:=hat (by omega)
   have hL0:=hL;rcases hown.2 with⟨hL',h0⟩|⟨g,cap,cur,hL',hb1,hh,hnc,hcm,hcs,htake⟩
   ·rw[hL']at hL;cases hL
   rw[hL']at hL;injection hL with e2 e3 e4
   injection e2 with e2
   injection e2 with e2
   subst e2;generalize hq:min n ys.length=m at hm ⊢;have hyl:us.length=ys.length*i.size:=by rw[hrz.1,lO ys i.size fun u hu=>(hall' u hu).1]
   have hcl':(us.take (m*i.size)).length=m*i.size:=by
    rw[List.length_take,hyl];exact Nat.min_eq_left (Qq62 _ (by omega))
   have hone':∀u∈us.take (m*i.size),u.oneCell'=true:=by
    intro u hu;obtain⟨q,hq,rfl⟩:=List.mem_iff_getElem.1 (Q0 hu);have hx:q<ys.flatten.length:=by rw[<-hrz.1];exact hq
    obtain⟨el,hel,hmem⟩:=List.mem_flatten.1 (QZ hx);exact((hrz.2 q _ _ (Qv hx) (Qv hq)).one (QH.1 (hall' el hel).2 _ hmem)).1
   have hmt:(ys.take n).length=m:=by rw[List.length_take];exact hq
   have hkz:∀u∈ll es lo n ys,u.length=i.size:=by
    intro u hu;simp only[ll,Qz]at hu;rcases hu with(hu|hu)|hu
    ·exact hk u (Q0 hu)
    ·exact(hall' u (Q0 hu)).1
    ·exact hk u (Q1 hu)
   have hlz:(ll es lo n ys).length=es.length:=by
    simp only[ll,QB,List.length_take,List.length_drop];omega
   have hfl:(ll es lo n ys).flatten=es.flatten.take (lo*i.size)++ys.flatten.take (m*i.size)++es.flatten.drop (lo*i.size+m*i.size):=by
    have h1:ys.take n=ys.take m:=by rw[<-hq,Nat.min_def];split<;>first|rfl|(rw[List.take_of_length_le (by omega),List.take_of_length_le (QI _)])
    rw[ll,hq,h1,List.flatten_append,List.flatten_append,qL i.size lo es hk,qL i.size m ys (fun u hu=>(hall' u hu).1),yU i.size (lo+m) es hk,Qq72]
   have hcl:lo*i.size+m*i.size<=cur.size:=by
    rw[hcs,<-Qq72];exact Qq62 _ (by omega)
   have hrun:=LI (P:=P) w t t o.type e g (lo*i.size) n c ad' ys.length c' cur e (us.take (m*i.size)) i.size m ht (by rw[hi];rfl) hh (by show m=min ys.length n;omega) hcl'
    (fun j v hj=>hcz j v (by rw[Qq67]at hj;split at hj;exact hj;cases hj)) (by rw[hcl'];exact hcl) hone'
   rw[hcl']at hrun
   have hset:(w.setRow g (cur.toList.take (lo*i.size)++us.take (m*i.size)++cur.toList.drop (lo*i.size+m*i.size)).toArray).ownsRow (gd E (L id)) e i.size (L id) (ll es lo n ys).length (vs.take (lo*i.size)++us.take (m*i.size)++vs.drop (lo*i.size+m*i.size)):=by
    have hvl:vs.length=es.length*i.size:=hown.1;have hle:lo*i.size+m*i.size<=es.length*i.size:=by rw[<-Qq72];exact Qq62 _ (by omega)
    rw[hlz]
    refine⟨by simp only[QB,List.length_drop,hcl',hvl];rw[List.length_take,hvl];omega,.inr ⟨g,cap,_,hL',hb1,setRow_heap w g cur _ e _ hh,hnc,hcm,by
     rw[hcs]at hcl;simp only[List.size_toArray,QB,List.length_drop,Array.length_toList,hcl',hcs];rw[List.length_take,Array.length_toList,hcs]
     omega,?_⟩⟩
    rw[<-htake];have hce:es.length*i.size<=cur.size:=by rw[hcs];exact Qq62 _ hnc
    simpa using FX cur.toList (us.take (m*i.size)) (lo*i.size) (m*i.size) (es.length*i.size) hcl' hle (by simpa using hce)
   obtain⟨h2,hs2,hg⟩:=h.og (w':=w.setRow g (cur.toList.take (lo*i.size)++us.take (m*i.size)++cur.toList.drop (lo*i.size+m*i.size)).toArray) hN
    ⟨ar,.row e i.size (ll es lo n ys)⟩ (L id) (.inl ⟨hver.symm,rfl,by rw[hc];rfl⟩) rfl rfl rfl (by simp)
    (fun q hq hne=>setRow_other w g q _ (fun ek=>hne (by rw[hc];rfl) (by rw[hL',ek];rfl)))
    (fun q _ hq=> .inl ⟨by rw[hc];rfl,hq⟩)
    (fun hs2 hg=>⟨_,hset,hkz,by
     rw[hfl]
     exact(((hr.take (lo*i.size)).append (hrz.take (m*i.size))).append (hr.drop (lo*i.size+m*i.size))).mono hs2 hg⟩)
   exact⟨_,_,_,goInt m,hexec (by rw[hv,hvz];exact hrun),.inl rfl,.int _ _,h2⟩
 split at he
 ·rename_i id ar e0;rw[e0]at ry;split at he
  case isFalse=>cases he
  rename_i hver;split at he
  case h_2=>cases he
  rename_i e1 k' es hc;split at he
  case isFalse=>cases he
  rename_i hb;obtain⟨rfl,rfl,hall⟩:=hb;obtain⟨rfl,rfl⟩:=bW he;obtain⟨hN,hv⟩:=ry.kR (show(S.gh L).V id=ar from hver)
  have hv:a.eval y=L id:=hv;obtain⟨vs,hown,hk,hr⟩:=h.iI hN hc;rcases hown.2 with⟨hL,h0⟩|⟨g,cap,cur,hL,_⟩
  ·have:=main id ar es 0 es.length 0 none hN hver hc (by rw[hv,hL,h0]) (by omega) (fun h1=>absurd h0 h1) hall
   exact this
  ·have:=main id ar es 0 es.length cap _ hN hver hc (by rw[hv,hL]) (by omega) (fun _=>⟨g,_,_,hL,by simp⟩) hall
   exact this
 ·rename_i id ar k0 lo n e0;rw[e0]at ry;split at he
  case isFalse=>cases he
  rename_i hver;split at he
  case h_2=>cases he
  rename_i e1 k' es hc;split at he
  case isFalse=>cases he
  rename_i hb;obtain⟨rfl,rfl,rfl,hall⟩:=hb;obtain⟨rfl,rfl⟩:=bW he;obtain⟨hN,ad,c,hv,hat⟩:=ry.vF (show(S.gh L).V id=ar from hver)
  have hle:=h.EJ hN hc hat;obtain⟨a0,m0,c0,hL,q1,q2,q3,q4⟩:=hat;have hL:L id= .slice a0 m0 c0:=hL;refine main id ar es lo n c ad hN hver hc hv hle (fun h1=> ?_) hall
  obtain⟨vs,hown,hk,hr⟩:=h.iI hN hc;rcases hown.2 with⟨hL',h0⟩|⟨g,cap,cur,hL',_⟩
  ·omega
  ·rw[hL']at hL;injection hL with e2 e3 e4
   subst e2 e3 e4;rcases q4 with q4|q4
   ·omega
   ·exact⟨g,_,_,hL',by rw[q4];simp[add_mid]⟩
 ·cases he
theorem RR(h:Rel E S a w L){neg:Bool}{t t2 e:TypeId}{y:Operand}{y':bg}(ho:o.op= .binOp (if neg then .neq else .eql) t y (.const (.slice none 0 0)) t2)(ht:P.underlying t=some (.slice e))(hy:bb y=some y')
  (he:exec Γ nid S (.uC neg y')=some (x,wr)):Good P E S a w o x wr:=by
 have r:=h.eM hy
 have key:∀(ad:Option Addr) (n c:Nat),a.eval y= .slice ad n c->(execOp a.eval o).run P w= .ok (.value (.bool (xor neg ad.isNone))) w:=by
  intro ad n c hv;have hc:a.eval (.const (.slice none 0 0))= .slice none 0 0:=rfl;have hq:=run_equal_slice_nil (P:=P) w t e ad n c ht;have hg:∀op,(eqGuard op t y (.const (.slice none 0 0)) (.slice ad n c) (.slice none 0 0)).run P w= .ok () w:=by intro op;cases op<;>simp[eqGuard]
  cases neg
  ·simp only[Qq,Qu]at ho;simp only[execOp,ho,hv,hc,Sem.run_bind,hg,Result.andThen_ok,binOp,hq,Sem.run_pure];simp
  ·simp only[Qt]at ho;simp only[execOp,ho,hv,hc,Sem.run_bind,hg,Result.andThen_ok,binOp,hq,Sem.run_pure];simp
 simp only[exec]at he;split at he
 ·rename_i e0;rw[e0]at r;obtain⟨rfl,rfl⟩:=bW he;exact Good.pure h (key none 0 0 r.oX) (by cases neg<;>exact .bool _)
 ·split at he
  ·rename_i hes;obtain⟨rfl,rfl⟩:=bW he;obtain⟨ad,c,hv⟩:=h.OC r hes;exact Good.pure h (key ad _ c hv) (.fB _)
  ·rename_i u us hes;obtain⟨rfl,rfl⟩:=bW he;rcases h.AD r hes with⟨_,h0⟩|⟨ad,c,vs,hv,_⟩
   ·cases h0
   ·exact Good.pure h (key (some ad) _ c hv) (by cases neg<;>exact .bool _)
  ·cases he
end
end
section
open Go.RowKit
section
variable {P : Program} {E : En} {S : St} {a : Act} {w : World} {L : Nat -> Value} {o : Oper} {x : PV} {wr : Option (Nat × fc)} {Γ : nk} {nid : Nat}
theorem SD{t:TypeId}{fs:Array Field}{f g:Field}{k0 k:IntKind}{p q:Int}{s u:ByteArray}(ht:P.underlying t=some (.struct fs))(hfs:fs.toList=[f,g])(hf:P.underlying f.type=some (.int k0))(hg:P.underlying g.type=some .string)
  (h0:f.offset=0) (h1:g.offset=1) (hn0:f.name≠ "_") (hn1:g.name≠ "_") (hst:P.stoodInHeld t=false) (d:Nat):
  (Op.equalIn (d+2) t (.agg #[.int k p,.string s]) (.agg #[.int k q,.string u])).run P w= .ok (decide (p=q)&&decide (s=u)) w:=by
 have hfo:P.fieldsOf t=fs:=by simp[Program.fieldsOf,ht]
 have hi0:(isAgg f.type).run P w= .ok false w:=by simp[isAgg,run_underlying hf]
 have hi1:(isAgg g.type).run P w= .ok false w:=by simp[isAgg,run_underlying hg]
 have p0:∀v u:Value,(part f.type #[v,u] 0).run P w= .ok v w:=fun v u=>by simp[part,hi0]
 have p1:∀v u:Value,(part g.type #[v,u] 1).run P w= .ok u w:=fun v u=>by simp[part,hi1]
 rw[run_equalIn_struct w (d+1) t _ _ (by rw[hfo];exact ht) hst,hfo,hfs]
 have q0:=run_equalIn_int (P:=P) w d f.type k k0 p q hf;have q1:=run_equalIn_string (P:=P) w d g.type s u hg;rw[toList_eq_iff]at q1
 by_cases hpq:p=q
 ·subst hpq;simp[Op.eqFields,hn0,hn1,h0,h1,p0,p1,q0,q1]
  by_cases hsu:s=u<;>simp[hsu]
 ·have:(p==q)=false:=by simp[hpq]
  rw[this]at q0;simp[Op.eqFields,hn0,h0,p0,q0,hpq]
theorem YH(h:Rel E S a w L){neg:Bool}{y z:Operand}{y' z':bg}{t t2:TypeId}(ho:o.op= .binOp (if neg then .neq else .eql) t y z t2)(ht:P.underlying t=some .bool)
  (hy:bb y=some y') (hz:bb z=some z') (he:exec Γ nid S (.Eh neg y' z')=some (x,wr)):Good P E S a w o x wr:=by
 have ry:=h.eM hy;have rz:=h.eM hz;simp only[exec]at he;split at he
 ·rename_i p q e1 e2;obtain⟨rfl,rfl⟩:=bW he;rw[e1]at ry;rw[e2]at rz;have hv:=ry.nL;have hu:=rz.nL;have hd:(p==q)=decide (p=q):=by cases p<;>cases q<;>rfl
  have hrun:=run_equalIn_bool (P:=P) w 9999 t p q ht;rw[hd]at hrun;have hgd:∀op,(eqGuard op t y z (.bool p) (.bool q)).run P w= .ok () w:=by intro op;cases op<;>simp[eqGuard]
  refine Good.pure h (v:= .bool (xor neg (decide (p=q)))) ?_ (.bool _);cases neg
  ·simp only[Qq,Qu]at ho;simp only[execOp,ho,hv,hu,Sem.run_bind,hgd,Result.andThen_ok,binOp,Op.equal,Op.maxDepth,Sem.run_pure];rw[hrun];simp
  ·simp only[Qt]at ho;simp only[execOp,ho,hv,hu,Sem.run_bind,hgd,Result.andThen_ok,binOp,Op.equal,Op.maxDepth,Sem.run_pure];rw[hrun];simp
 ·cases he
theorem YI(h:Rel E S a w L){neg:Bool}{y z:Operand}{y' z':bg}{t t2:TypeId}{fs:Array Field}{f g:Field}{k0:IntKind}(ho:o.op= .binOp (if neg then .neq else .eql) t y z t2)(ht:P.underlying t=some (.struct fs))(hfs:fs.toList=[f,g])
  (hf:P.underlying f.type=some (.int k0)) (hg:P.underlying g.type=some .string) (h0:f.offset=0) (h1:g.offset=1) (hn0:f.name≠ "_") (hn1:g.name≠ "_") (hst:P.stoodInHeld t=false) (hgu:P.eqGuardType P.depth t=false)
  (hy:bb y=some y') (hz:bb z=some z') (he:exec Γ nid S (.ml neg y' z')=some (x,wr)):Good P E S a w o x wr:=by
 have ry:=h.eM hy;have rz:=h.eM hz;simp only[exec]at he;split at he
 ·rename_i k p s k' q u e1 e2;split at he
  ·rename_i hk;subst hk;obtain⟨rfl,rfl⟩:=bW he;rw[e1]at ry;rw[e2]at rz;obtain⟨vs,hv,hr⟩:=ry.oy;obtain⟨us,hu,hr2⟩:=rz.oy;obtain⟨v1,vs1,rfl,r1,hr⟩:=hr.cons_inv;obtain⟨v2,vs2,rfl,r2,hr⟩:=hr.cons_inv;have:=hr.tQ;subst this;obtain⟨u1,us1,rfl,r3,hr2⟩:=hr2.cons_inv;obtain⟨u2,us2,rfl,r4,hr2⟩:=hr2.cons_inv;have:=hr2.tQ;subst this;have:=r1.eC;subst this;have:=r2.dH;subst this;have:=r3.eC;subst this;have:=r4.dH;subst this;have hrun:=SD (P:=P) (w:=w) (k:=k) (p:=p) (q:=q) (s:=s) (u:=u) ht hfs hf hg h0 h1 hn0 hn1 hst 9998
   have hgd:∀op,(eqGuard op t y z (.agg [.int k p,.string s].toArray) (.agg [.int k q,.string u].toArray)).run P w= .ok () w:=by
    intro op;cases op<;>simp[eqGuard,program,Sem.run,hgu]
   refine Good.pure h (v:= .bool (xor neg (decide (p=q)&&decide (s=u)))) ?_ (.bool _);cases neg
   ·simp only[Qq,Qu]at ho;simp only[execOp,ho,hv,hu,Sem.run_bind,hgd,Result.andThen_ok,binOp,Op.equal,Op.maxDepth,Sem.run_pure];rw[hrun];simp
   ·simp only[Qt]at ho;simp only[execOp,ho,hv,hu,Sem.run_bind,hgd,Result.andThen_ok,binOp,Op.equal,Op.maxDepth,Sem.run_pure];rw[hrun];simp
  ·cases he
 ·cases he
theorem AB:∀(ks ks':List LK) (cs ds:List PV) (b:Bool),jV (ks++ks') cs ds=some b->
  ∃b1 b2,jV ks (cs.take ks.length) (ds.take ks.length)=some b1/\jV ks' (cs.drop ks.length) (ds.drop ks.length)=some b2/\b=(b1&&b2)
 |[],ks',cs,ds,b,h=>⟨true,b,by simp[jV],by simpa using h,by simp⟩
 |k::ks,ks',cs,ds,b,h=>by
  cases k<;>cases cs<;>cases ds<;>simp only[List.cons_append,jV]at h<;>try (cases h;done)
  all_goals rename_i x cs y ds
  all_goals cases x<;>cases y<;>simp only[jV]at h<;>try (cases h;done)
  ·split at h
   ·rename_i hk;simp only[Qb]at h;obtain⟨r,hr,rfl⟩:=h;obtain⟨b1,b2,h1,h2,rfl⟩:=AB ks ks' cs ds r hr;refine⟨_,b2,?_,h2,(Bool.and_assoc _ _ _).symm⟩;simp only[QE,List.take_succ_cons,jV,Qr hk,h1,Qe]
   ·cases h
  all_goals
   simp only[Qb]at h;obtain⟨r,hr,rfl⟩:=h;obtain⟨b1,b2,h1,h2,rfl⟩:=AB ks ks' cs ds r hr;refine⟨_,b2,?_,h2,(Bool.and_assoc _ _ _).symm⟩;simp only[QE,List.take_succ_cons,jV,h1,Qe]
theorem Ha:∀(ks:List LK) (cs ds:List PV) (b:Bool),jV ks cs ds=some b->cs.length=ks.length/\ds.length=ks.length
 |[],cs,ds,b,h=>by cases cs<;>cases ds<;>simp[jV]at h<;>simp
 |k::ks,cs,ds,b,h=>by
  cases k<;>cases cs<;>cases ds<;>(try simp only[jV]at h)<;>try (cases h;done)
  all_goals rename_i x cs y ds
  all_goals cases x<;>cases y<;>simp only[jV]at h<;>try (cases h;done)
  ·split at h
   ·simp only[Qb]at h;obtain⟨r,hr,rfl⟩:=h;have:=Ha ks cs ds r hr;simp[this.1,this.2]
   ·cases h
  all_goals
   simp only[Qb]at h;obtain⟨r,hr,rfl⟩:=h;have:=Ha ks cs ds r hr;simp[this.1,this.2]
def valOf(P:Program)(t:TypeId)(vs:List Value):Value:=
 match P.underlying t with
 |some (.struct _)=> .agg vs.toArray
 |_=>vs.headD undef
theorem IZ{d:Nat}{t:TypeId}{ks:List LK}(h:vX P (d+1) t=some ks):
  (∃k,P.underlying t=some (.int k)/\ks=[.i])\/(P.underlying t=some .string/\ks=[.s])\/(P.underlying t=some .bool/\ks=[.b])\/∃fs,P.underlying t=some (.struct fs)/\P.stoodInHeld t=false/\J8 P (vX P d) fs.toList 0=some ks:=by
 rw[vX]at h;split at h
 ·rename_i k hu;injection h with h;exact .inl ⟨k,hu,h.symm⟩
 ·rename_i hu;injection h with h;exact .inr (.inl ⟨hu,h.symm⟩)
 ·rename_i hu;injection h with h;exact .inr (.inr (.inl ⟨hu,h.symm⟩))
 ·rename_i fs hu;split at h
  ·rename_i hs;exact .inr (.inr (.inr ⟨fs,hu,hs,h⟩))
  ·cases h
 ·cases h
theorem HE{t:TypeId}{d off:Nat}{ks:List LK}{i:TypeInfo}{vs:List Value}(h:vX P d t=some ks)(hi:P.info? t=some i)(hn:i.size=ks.length)(hlen:off+ks.length<=vs.length):
  (part t vs.toArray off).run P w= .ok (valOf P t ((vs.drop off).take ks.length)) w:=by
 cases d with
 |zero=>simp[vX]at h
 |succ d=>
  have leaf:(∀fs,P.underlying t≠some (.struct fs))->(isAgg t).run P w= .ok false w->ks.length=1->(part t vs.toArray off).run P w= .ok (valOf P t ((vs.drop off).take ks.length)) w:=by
   intro hns ha h1;have hlt:off<vs.length:=by omega
   have hv:valOf P t ((vs.drop off).take ks.length)=vs[off]:=by
    unfold valOf;split
    ·rename_i fs hfs;exact absurd hfs (hns fs)
    ·rw[h1,QM hlt];rfl
   rw[hv];simp[part,ha,hlt]
  rcases IZ h with⟨k,hu,rfl⟩|⟨hu,rfl⟩|⟨hu,rfl⟩|⟨fs,hu,_,_⟩
  ·exact leaf (fun fs e=>by rw[hu]at e;cases e) (by simp[isAgg,run_underlying hu]) rfl
  ·exact leaf (fun fs e=>by rw[hu]at e;cases e) (by simp[isAgg,run_underlying hu]) rfl
  ·exact leaf (fun fs e=>by rw[hu]at e;cases e) (by simp[isAgg,run_underlying hu]) rfl
  ·have ha:(isAgg t).run P w= .ok true w:=by simp[isAgg,run_underlying hu]
   have hv:valOf P t ((vs.drop off).take ks.length)= .agg ((vs.drop off).take ks.length).toArray:=by unfold valOf;rw[hu]
   rw[hv];simp[part,ha,sizeOf,typeInfo,hi,hn,List.extract]
theorem WQ{M:Nat->Prop}{G:Gh}{d e:Nat}(hA:∀(t:TypeId) (ks:List LK) (cs ds:List PV) (b:Bool) (vs us:List Value),vX P d t=some ks->jV ks cs ds=some b->aR w M G cs vs->aR w M G ds us->(Op.equalIn e t (valOf P t vs) (valOf P t us)).run P w= .ok b w):
  ∀(fs:List Field) (ks:List LK) (off:Nat) (cs ds:List PV) (b:Bool) (vs us:List Value),J8 P (vX P d) fs off=some ks->cs.length=off+ks.length->ds.length=off+ks.length->jV ks (cs.drop off) (ds.drop off)=some b->aR w M G cs vs->aR w M G ds us->(Op.eqFields e vs.toArray us.toArray fs).run P w= .ok b w:=by
 intro fs
 induction fs with
 |nil=>
  intro ks off cs ds b vs us h hc hd hq hr hr2;simp only[J8,Qf]at h;subst h;rw[List.drop_eq_nil_of_le (by simpa using Nat.le_of_eq hc),List.drop_eq_nil_of_le (by simpa using Nat.le_of_eq hd)]at hq
  simp only[jV,Qf]at hq;subst hq;simp[Op.eqFields]
 |cons f fs ih=>
  intro ks off cs ds b vs us h hc hd hq hr hr2;rw[J8]at h;split at h
  ·rename_i hname;obtain⟨hname,hoff⟩:=hname;split at h
   ·rename_i k1 i hk1 hi;split at h
    ·rename_i hsz;simp only[Qb]at h;obtain⟨k2,hk2,rfl⟩:=h;rw[QB]at hc hd;obtain⟨b1,b2,h1,h2,rfl⟩:=AB k1 k2 _ _ b hq;rw[List.drop_drop]at h2;rw[List.drop_drop]at h2;have p1:(part f.type vs.toArray f.offset).run P w=_:=HE (w:=w) hk1 hi hsz (by rw[hoff,hr.1];omega)
     have p2:(part f.type us.toArray f.offset).run P w=_:=HE (w:=w) hk1 hi hsz (by rw[hoff,hr2.1];omega)
     have q1:=hA f.type k1 _ _ b1 _ _ hk1 h1 ((hr.drop off).take k1.length) ((hr2.drop off).take k1.length);rw[<-hoff]at q1;have q2:=ih k2 (off+k1.length) cs ds b2 vs us hk2 (by omega) (by omega) h2 hr hr2
     cases b1 with
     |false=>simp[Op.eqFields,hname,p1,p2,q1]
     |true=>simp[Op.eqFields,hname,p1,p2,q1,q2]
    ·cases h
   ·cases h
  ·cases h
theorem MQ{M:Nat->Prop}{G:Gh}:∀(d:Nat) (t:TypeId) (ks:List LK) (e:Nat) (cs ds:List PV) (b:Bool) (vs us:List Value),vX P d t=some ks->d<=e->jV ks cs ds=some b->aR w M G cs vs->aR w M G ds us->(Op.equalIn e t (valOf P t vs) (valOf P t us)).run P w= .ok b w
 |0=>fun t ks e cs ds b vs us h=>by simp[vX]at h
 |d+1=>by
  have hA:=MQ (M:=M) (G:=G) d;intro t ks e cs ds b vs us h he hq hr hr2
  ·obtain⟨e,rfl⟩:∃e',e=e'+1:=⟨e - 1,by omega⟩
   obtain⟨hl1,hl2⟩:=Ha _ _ _ _ hq
   have one:∀{x:LK},ks=[x]->∃p q v u,cs=[p]/\ds=[q]/\vs=[v]/\us=[u]/\aW w M G p v/\aW w M G q u:=by
    intro x hx;subst hx;have h1:∃p,cs=[p]:=List.length_eq_one_iff.1 hl1;have h2:∃p,ds=[p]:=List.length_eq_one_iff.1 hl2;obtain⟨p,rfl⟩:=h1;obtain⟨q,rfl⟩:=h2;obtain⟨v,vs',rfl,r1,r2⟩:=hr.cons_inv;obtain⟨u,us',rfl,r3,r4⟩:=hr2.cons_inv;have e1:=r2.tQ;have e2:=r4.tQ;subst e1 e2;exact⟨p,q,v,u,rfl,rfl,rfl,rfl,r1,r3⟩
   have hval:∀l:List Value,(∀fs,P.underlying t≠some (.struct fs))->valOf P t l=l.headD undef:=by
    intro l hns;unfold valOf;split
    ·rename_i fs hfs;exact absurd hfs (hns fs)
    ·rfl
   rcases IZ h with⟨k,hu,hk⟩|⟨hu,hk⟩|⟨hu,hk⟩|⟨fs,hu,hst,hf⟩
   ·obtain⟨p,q,v,u,rfl,rfl,rfl,rfl,r1,r2⟩:=one hk;subst hk;rw[hval _ (fun fs e=>by rw[hu]at e;cases e),hval _ (fun fs e=>by rw[hu]at e;cases e)]
    cases p<;>cases q<;>simp only[jV]at hq<;>try (cases hq;done)
    split at hq
    ·rename_i hkk;subst hkk;simp only[Qe,Qf,Bool.and_true]at hq;subst hq;have:=r1.eC;subst this;have:=r2.eC;subst this;rename_i k1 a1 b1;exact run_equalIn_int w e t _ k a1 b1 hu
    ·cases hq
   ·obtain⟨p,q,v,u,rfl,rfl,rfl,rfl,r1,r2⟩:=one hk;subst hk;rw[hval _ (fun fs e=>by rw[hu]at e;cases e),hval _ (fun fs e=>by rw[hu]at e;cases e)]
    cases p<;>cases q<;>simp only[jV]at hq<;>try (cases hq;done)
    simp only[Qe,Qf,Bool.and_true]at hq;subst hq;have:=r1.dH;subst this;have:=r2.dH;subst this;rename_i a1 b1;have:=run_equalIn_string (P:=P) w e t a1 b1 hu;rw[toList_eq_iff]at this;exact this
   ·obtain⟨p,q,v,u,rfl,rfl,rfl,rfl,r1,r2⟩:=one hk;subst hk;rw[hval _ (fun fs e=>by rw[hu]at e;cases e),hval _ (fun fs e=>by rw[hu]at e;cases e)]
    cases p<;>cases q<;>simp only[jV]at hq<;>try (cases hq;done)
    simp only[Qe,Qf,Bool.and_true]at hq;subst hq;have:=r1.nL;subst this;have:=r2.nL;subst this;rename_i a1 b1;have:=run_equalIn_bool (P:=P) w e t a1 b1 hu;rw[show(a1==b1)=decide (a1=b1)by cases a1<;>cases b1<;>rfl]at this
    exact this
   ·have hv:∀l:List Value,valOf P t l= .agg l.toArray:=fun l=>by unfold valOf;rw[hu]
    have hfo:P.fieldsOf t=fs:=by simp[Program.fieldsOf,hu]
    rw[hv,hv,run_equalIn_struct w e t _ _ (by rw[hfo];exact hu) hst,hfo]
    exact WQ (fun t ks cs ds b vs us h1 h2 h3 h4=>hA t ks e cs ds b vs us h1 (by omega) h2 h3 h4) fs.toList ks 0 cs ds b vs us hf (by omega) (by omega) (by simpa using hq) hr hr2
theorem Mq(h:Rel E S a w L){neg:Bool}{ks:List LK}{y z:Operand}{y' z':bg}{t t2:TypeId}{fs:Array Field}(ho:o.op= .binOp (if neg then .neq else .eql) t y z t2)(ht:P.underlying t=some (.struct fs))(hk:vX P 64 t=some ks)
  (hgu:P.eqGuardType P.depth t=false) (hy:bb y=some y') (hz:bb z=some z') (he:exec Γ nid S (.eqs neg ks y' z')=some (x,wr)):Good P E S a w o x wr:=by
 have ry:=h.eM hy;have rz:=h.eM hz;simp only[exec]at he;split at he
 ·rename_i cs ds e1 e2;simp only[Qb]at he;obtain⟨b,hb,he⟩:=he;injection he with h1 h2
  subst h1 h2;rw[e1]at ry;rw[e2]at rz;obtain⟨vs,hv,hr⟩:=ry.oy;obtain⟨us,hu,hr2⟩:=rz.oy;have hval:∀l:List Value,valOf P t l= .agg l.toArray:=fun l=>by unfold valOf;rw[ht]
  have hrun:=MQ (P:=P) (w:=w) 64 t ks 10000 cs ds b vs us hk (by omega) hb hr hr2
  rw[hval,hval]at hrun
  have hgd:∀op,(eqGuard op t y z (.agg vs.toArray) (.agg us.toArray)).run P w= .ok () w:=by
   intro op;cases op<;>simp[eqGuard,program,Sem.run,hgu]
  refine Good.pure h (v:= .bool (xor neg b)) ?_ (.bool _);cases neg
  ·simp only[Qq,Qu]at ho;simp only[execOp,ho,hv,hu,Sem.run_bind,hgd,Result.andThen_ok,binOp,Op.equal,Op.maxDepth,Sem.run_pure];rw[hrun];simp
  ·simp only[Qt]at ho;simp only[execOp,ho,hv,hu,Sem.run_bind,hgd,Result.andThen_ok,binOp,Op.equal,Op.maxDepth,Sem.run_pure];rw[hrun];simp
 ·cases he
theorem aW.closed{M M':Nat->Prop}{G G':Gh}{y:PV}{v:Value}(hc:y.closed=true)(hM:∀b,M' b->M b)(h:aW w M G y v):aW w M' G' y v:=by
 have hs:dj w w M M':=(dj.of fun _ hm=>fun h'=>hm (hM _ h'))
 cases h with
 |any=>simp[PV.closed]at hc
 |undef=>simp[PV.closed]at hc
 |int=>exact .int _ _
 |bool=>exact .bool _
 |fB=>first|exact .fB _|simp[PV.closed]at hc
 |str=>exact .str _
 |jj=>exact .jj
 |dx=>exact .dx
 |cz f cs vs hl h=>
  cases cs with
  |nil=>exact .cz f [] vs hl (fun i x v hx _=>by simp at hx)
  |cons=>simp[PV.closed]at hc
 |iM=>simp[PV.closed]at hc
 |agg=>simp[PV.closed]at hc
 |cX=>simp[PV.closed]at hc
 |ptr=>simp[PV.closed]at hc
 |ref cs ad vs hl hcell h=>exact .ref cs ad vs hl (fun i u hu=>⟨(hcell i u hu).1,fun h'=>(hcell i u hu).2 (hM _ h')⟩) (fun i p u hp hu=>(h i p u hp hu).mono hs (Gh.le.refl _))
 |sl es ad c k vs hk hl hcell h hn hm=>exact .sl es ad c k vs hk hl (fun i u hu=>⟨(hcell i u hu).1,fun h'=>(hcell i u hu).2 (hM _ h')⟩) (fun i p u hp hu=>(h i p u hp hu).mono hs (Gh.le.refl _)) hn hm
 |slnil=>exact .slnil
 |own=>simp[PV.closed]at hc
 |ed=>simp[PV.closed]at hc
 |view=>simp[PV.closed]at hc
 |sf=>exact .sf
 |si T v=>exact .si T v
 |gA T x v hp h=>exact .gA T x v hp (h.plain hp)
 |iu ks us b es ck hb hMb hk hv h1 h2=>exact .iu ks us b es ck hb (fun h'=>hMb (hM _ h')) hk hv (fun i p e hp he=>(h1 i p e hp he).mono hs (Gh.le.refl _)) (fun i p e hp he=>(h2 i p e hp he).mono hs (Gh.le.refl _))
theorem aR.closed{M M':Nat->Prop}{G G':Gh}{ys:List PV}{vs:List Value}(hc:ys.all PV.closed=true)(hM:∀b,M' b->M b)(h:aR w M G ys vs):aR w M' G' ys vs:=
 ⟨h.1,fun i y v hy hv=>(h.2 i y v hy hv).closed (QH.1 hc y (Q7 hy)) hM⟩
theorem aW.bB{M M':Nat->Prop}{G G':Gh}{y:PV}{v:Value}(hc:y.bB=true)(hM:∀b,M' b->M b)(h:aW w M G y v):aW w M' G' y v:=by
 cases y with
 |agg cs=>cases h with|agg _ vs hl h=>have:=aR.closed (G':=G') (by simpa[PV.bB]using hc) hM ⟨hl,h⟩;exact .agg cs vs this.1 this.2
 |cX cs=>cases h with|cX _ vs hl h=>have:=aR.closed (G':=G') (by simpa[PV.bB]using hc) hM ⟨hl,h⟩;exact .cX cs vs this.1 this.2
 |cz f cs=>cases h with|cz _ _ vs hl h=>have:=aR.closed (G':=G') (by simpa[PV.bB]using hc) hM ⟨hl,h⟩;exact .cz f cs vs this.1 this.2
 |_=>exact h.closed (by simpa[PV.bB]using hc) hM
theorem aW.rO{M M':Nat->Prop}{G G':Gh}{y:PV}{v:Value}(hc:y.rO=true)(hM:∀b,M' b->M b)(h:aW w M G y v):aW w M' G' y v:=by
 cases y with
 |cX cs=>cases h with|cX _ vs hl h=>exact .cX cs vs hl fun i y v hy hv=>(h i y v hy hv).bB (QH.1 (show cs.all PV.bB=true from hc) y (Q7 hy)) hM
 |_=>exact h.bB hc hM
theorem aW.mV{w':World}{M M':Nat->Prop}{G G':Gh}{y:PV}{v:Value}(hc:y.mV=true)(h:aW w M G y v):aW w' M' G' y v:=by
 have go:∀{cs:List PV} {vs:List Value},cs.all PV.plain=true->aR w M G cs vs->aR w' M' G' cs vs:=fun hc h=>⟨h.1,fun i y v hy hv=>(h.2 i y v hy hv).plain (QH.1 hc y (Q7 hy))⟩
 cases y with
 |agg cs=>cases h with|agg _ vs hl h=>have:=go (by simpa[PV.mV]using hc) ⟨hl,h⟩;exact .agg cs vs this.1 this.2
 |_=>exact h.plain (by simpa[PV.mV]using hc)
theorem aW.qu{w':World}{M M':Nat->Prop}{G G':Gh}{y:PV}{v:Value}(hc:y.qu=true)(h:aW w M G y v):aW w' M' G' y v:=by
 cases y with
 |cX cs=>cases h with|cX _ vs hl h=>exact .cX cs vs hl fun i y v hy hv=>(h i y v hy hv).mV (QH.1 (show cs.all PV.mV=true from hc) y (Q7 hy))
 |_=>exact h.mV hc
theorem aR.plain{w':World}{M M':Nat->Prop}{G G':Gh}{ys:List PV}{vs:List Value}(hc:ys.all PV.plain=true)(h:aR w M G ys vs):aR w' M' G' ys vs:=
 ⟨h.1,fun i y v hy hv=>(h.2 i y v hy hv).plain (QH.1 hc y (Q7 hy))⟩
theorem sW{H:Nat->fc}{ex:Option Nat}{M M':Nat->Prop}{G:Gh}{y:PV}{v:Value}(hc:y.closed=true)(hM:∀b,M' b->M b)(h:aW w M G y v)(n:Nat):aW w M' dm (fz H ex n y) v:=by
 have hn:y= .dx\/fz H ex n y=y:=by
  cases y with
  |cz f cs=>
   cases cs with
   |nil=>right;cases n<;>simp[fz,PV.closed]
   |cons=>simp[PV.closed]at hc
  |_=>first|exact .inl rfl|(right;cases n<;>simp_all [fz,PV.closed])|(simp[PV.closed]at hc;done)
 rcases hn with rfl|hn
 ·have:=h.oX;subst this;cases n<;>exact .slnil
 ·rw[hn];exact h.closed hc hM
theorem J5{H:Nat->fc}{ex:Option Nat}{M M':Nat->Prop}{G:Gh}{y:PV}{v:Value}(hc:y.bB=true)(hM:∀b,M' b->M b)(h:aW w M G y v)(n:Nat):aW w M' dm (fz H ex (n+1) y) v:=by
 have go:∀{cs:List PV} {vs:List Value},cs.all PV.closed=true->aR w M G cs vs->aR w M' dm (cs.map (fz H ex n)) vs:=fun hc hr=>
  ⟨by simp[hr.1],fun i p u hp hu=>by
   rw[QT,Qb]at hp;obtain⟨q,hq,rfl⟩:=hp
   exact sW (QH.1 hc q (Q7 hq)) hM (hr.2 i q u hq hu) n⟩
 cases y with
 |agg cs=>obtain⟨vs,rfl,hr⟩:=h.oy;have:=go (by simpa[PV.bB]using hc) hr;simp only[fz];exact .agg _ _ this.1 this.2
 |cX cs=>obtain⟨vs,rfl,hr⟩:=h.AP;have:=go (by simpa[PV.bB]using hc) hr;simp only[fz];exact .cX _ _ this.1 this.2
 |cz f cs=>obtain⟨vs,rfl,hr⟩:=h.yh;have:=go (by simpa[PV.bB]using hc) hr;simp only[fz];exact .cz _ _ _ this.1 this.2
 |_=>exact sW (by simpa[PV.bB]using hc) hM h (n+1)
theorem Rel.fz(h:Rel E S a w L){ex:Option Nat}{M:Nat->Prop}(hM:∀b,M b->bp E S L b)(hx:∀id b,id<S.N->(S.H id).c.live=true->some id≠ex->dS (L id)=some b->¬M b):
  ∀(n:Nat) {y:PV} {v:Value},aW w (bp E S L) (S.gh L) y v->aW w M dm (fz S.H ex n y) v
 |0,y,v,r=>by
  cases hc:y.closed with
  |true=>exact sW hc hM r 0
  |false=>
   have:TQ.fz S.H ex 0 y= .any:=by cases y<;>simp_all [TQ.fz,PV.closed]
   rw[this];exact .any _
 |n+1,y,v,r=>by
  have ih:=fun{y:PV} {v:Value} (r:aW w (bp E S L) (S.gh L) y v)=>h.fz hM hx n r
  have ihl:∀{cs:List PV} {vs:List Value},aR w (bp E S L) (S.gh L) cs vs->aR w M dm (cs.map (TQ.fz S.H ex n)) vs:=fun hr=>
   ⟨by simp[hr.1],fun i p u hp hu=>by
    rw[QT,Qb]at hp;obtain⟨q,hq,rfl⟩:=hp
    exact ih (hr.2 i q u hq hu)⟩
  cases y with
  |own id ar=>
   simp only[TQ.fz];split
   ·exact .any _
   ·rename_i hne;have hne':some id≠ex/\(S.H id).ar=ar:=⟨fun e=>hne (.inl e),Classical.not_not.1 fun e=>hne (.inr e)⟩
    split
    ·rename_i e k es hc;obtain⟨hN,hv⟩:=r.kR (show(S.gh L).V id=ar from hne'.2)
     obtain⟨vs,hown,hk,hr⟩:=h.iI hN hc;rw[hv,show(S.gh L).L id=L id from rfl]
     have hfl:(es.map fun e=>e.map (TQ.fz S.H ex n)).flatten=es.flatten.map (TQ.fz S.H ex n):=by rw[List.map_flatten]
     rcases hown.2 with⟨hL,h0⟩|⟨g,cap,cur,hL,_,hh,hnc,hcm,_⟩
     ·have:es=[]:=Qq66 h0;subst this;rw[hL];exact .slnil
     ·rw[hL];have hr2:=ihl hr;rw[<-hfl]at hr2;have hlen:es.length=(es.map fun e=>e.map (TQ.fz S.H ex n)).length:=by simp
      rw[hlen];refine .sl _ _ _ k vs (fun u hu=> ?_) hr2.1 (fun i u hu=>⟨hown.cells (g:=g) (by rw[hL];rfl) i u hu,hx id g hN (by rw[hc];rfl) hne'.1 (by rw[hL];rfl)⟩) hr2.2 (by simpa using hnc) hcm
      obtain⟨q,hq,rfl⟩:=QP.1 hu;simpa using hk q hq
    ·exact .any _
  |ptr id ar off=>
   simp only[TQ.fz];split
   ·exact .any _
   ·rename_i hne;have hne':some id≠ex/\(S.H id).ar=ar:=⟨fun e=>hne (.inl e),Classical.not_not.1 fun e=>hne (.inr e)⟩
    split
    ·rename_i cs hc;obtain⟨hN,_⟩:=r.mM (show(S.gh L).V id=ar from hne'.2)
     obtain⟨b,hv,hL⟩:=h.nD r hne'.2 hc;obtain⟨b',cur,T,hL',hh,hr,_⟩:=h.nf hN hc;rw[hL]at hL';simp only[Value.pointer.injEq,Qf,Addr.mk.injEq]at hL';obtain⟨rfl,_⟩:=hL';rw[hv];have hr2:=(ihl hr).drop off;exact .ref _ _ _ hr2.1 (fun i u hu=>⟨by rw[add_mid];exact o5 hh (fF hu),hx id b hN (by rw[hc];rfl) hne'.1 (by rw[hL];rfl)⟩) hr2.2
    ·exact .any _
  |agg cs=>obtain⟨vs,rfl,hr⟩:=r.oy;have:=ihl hr;exact .agg _ _ this.1 this.2
  |cX cs=>obtain⟨vs,rfl,hr⟩:=r.AP;have:=ihl hr;exact .cX _ _ this.1 this.2
  |cz f cs=>obtain⟨vs,rfl,hr⟩:=r.yh;have:=ihl hr;exact .cz _ _ _ this.1 this.2
  |dx=>exact sW rfl hM r (n+1)
  |_=>
   simp only[TQ.fz];split
   ·rename_i hc;exact r.closed hc hM
   ·exact .any _
theorem ZL(h:Rel E S a w L){b:Nat}(hb:bp E S L b):b<w.heap.size:=by
 rcases hb with⟨id,hid,hl,hb⟩|hb
 ·exact((h.obj id hid).uM hl hb).1
 ·exact QJ (E.hX.lt b hb) h.fr.size
theorem E8(h:Rel E S a w L){b:Nat}(hb:bp E S L b):¬gb b:=by
 rcases hb with⟨id,hid,hl,hb⟩|hb
 ·rcases((h.obj id hid).uM hl hb).2 with h1|h1
  ·exact(E.K8 b h1).2
  ·intro hg;have:=E.hX.gi.lt hg;omega
 ·exact E.hX.ng b hb
theorem Rel.gi(h:Rel E S a w L):GI w:=E.hX.gi.gP fun b hg=>h.fr.block b (E.hX.gi.lt hg) fun e=>(E.K8 b e).2 hg
theorem Rel.My(h:Rel E S a w L){X:Nat->Prop}(hX:∀q,X q->bp E S L q):qR w X:=⟨fun q hq=>ZL h (hX q hq),fun q hq=>E8 h (hX q hq),h.gi⟩
theorem Rel.x0(h:Rel E S a w L):qR w fun _=>False:= .nil h.gi
theorem aR.fz(h:Rel E S a w L){ex:Option Nat}{M:Nat->Prop}(hM:∀b,M b->bp E S L b)(hx:∀id b,id<S.N->(S.H id).c.live=true->some id≠ex->dS (L id)=some b->¬M b){args:List PV}{vs:List Value}
  (hr:aR w (bp E S L) (S.gh L) args vs):aR w M dm (args.map (TQ.fz S.H ex 9)) vs:=
 ⟨by simp[hr.1],fun i p u hp hu=>by
  rw[QT,Qb]at hp;obtain⟨q,hq,rfl⟩:=hp
  exact h.fz hM hx 9 (hr.2 i q u hq hu)⟩
theorem aR.bB{M M':Nat->Prop}{G G':Gh}{ys:List PV}{vs:List Value}(hc:ys.all PV.bB=true)(hM:∀b,M' b->M b)(h:aR w M G ys vs):aR w M' G' ys vs:=
 ⟨h.1,fun i y v hy hv=>(h.2 i y v hy hv).bB (QH.1 hc y (Q7 hy)) hM⟩
theorem aR.rK{H:Nat->fc}{ex:Option Nat}{M M':Nat->Prop}{G:Gh}{ys:List PV}{vs:List Value}(hc:ys.all PV.bB=true)(hM:∀b,M' b->M b)(h:aR w M G ys vs):aR w M' dm (ys.map (TQ.fz H ex 9)) vs:=
 ⟨by simp[h.1],fun i p u hp hu=>by
  rw[QT,Qb]at hp;obtain⟨q,hq,rfl⟩:=hp
  exact J5 (QH.1 hc q (Q7 hq)) hM (h.2 i q u hq hu) 8⟩
theorem F6{es:List (List PV)}(h:yB es=true):es.flatten.all PV.closed=true:=by
 refine QH.2 fun y hy=> ?_
 obtain⟨u,hu,hyu⟩:=List.mem_flatten.1 hy;exact QH.1 (QH.1 h u hu) y hyu
theorem wy{es:List (List PV)}(h:yz es=true):es.flatten.all PV.plain=true:=by
 refine QH.2 fun y hy=> ?_
 obtain⟨u,hu,hyu⟩:=List.mem_flatten.1 hy;exact QH.1 (QH.1 h u hu) y hyu
theorem DG{w:World}{b:Nat}{e k:Nat}{v:Value}{n:Nat}{xs:List Value}(h:w.ownsRow b e k v n xs):w.ownsRow 0 e k v n xs:=by
 refine⟨h.1,?_⟩;rcases h.2 with h1|⟨g,cap,cur,h1,_,h3⟩
 ·exact .inl h1
 ·exact .inr ⟨g,cap,cur,h1,QS _,h3⟩
theorem Nd{w w':World}{b:Nat}{e k:Nat}{v:Value}{n n':Nat}{xs ys:List Value}(h:w.ownsRow b e k v n xs)(h':w'.ownsRow 0 e k v n' ys):w'.ownsRow b e k v n' ys:=by
 refine⟨h'.1,?_⟩;rcases h'.2 with h1|⟨g,cap,cur,h1,_,h3⟩
 ·exact .inl h1
 ·refine .inr ⟨g,cap,cur,h1,?_,h3⟩;rcases h.2 with⟨h4,_⟩|⟨g',cap',cur',h4,h5,_⟩
  ·rw[h4]at h1;cases h1
  ·rw[h4]at h1;injection h1 with h1
   injection h1 with h1
   injection h1 with h1
   omega
theorem xp{w:World}{b:Nat}{e k:Nat}{v:Value}{n:Nat}{xs:List Value}(h:w.ownsRow b e k v n xs):∃ad n c,v= .slice ad n c:=by
 rcases h.2 with⟨rfl,_⟩|⟨g,cap,cur,rfl,_⟩
 ·exact⟨_,_,_,rfl⟩
 ·exact⟨_,_,_,rfl⟩
theorem um{E:En}{w w':World}{b:Nat}{e k:Nat}{v u:Value}{n n':Nat}{xs ys:List Value}(h:w.ownsRow (gd E v) e k v n xs)(h':w'.ownsRow 0 e k u n' ys)(hs:E.w0.heap.size<=b)
  (hu:∀g,dS u=some g->dS v=some g\/b<=g):w'.ownsRow (gd E u) e k u n' ys:=by
 refine⟨h'.1,?_⟩;rcases h'.2 with h1|⟨g,cap,cur,h1,_,h3⟩
 ·exact .inl h1
 ·refine .inr ⟨g,cap,cur,h1,?_,h3⟩;have hbu:dS u=some g:=by rw[h1];rfl
  rcases hu g hbu with hv|hv
  ·rw[xn (v:=u) (v':=v) (by rw[hbu,hv])]
   rcases h.2 with⟨h4,_⟩|⟨g',cap',cur',h4,h5,_⟩
   ·rw[h4]at hv;cases hv
   ·rw[h4]at hv;simp only[dS,Qf]at hv;omega
  ·rw[FY hbu (QK hs hv)];exact QK hs hv
theorem Rh(h:Rel E S a w L){id:Nat}(hN:id<S.N)(hlive:(S.H id).c.live=true){rest:List PV}{vs':List Value}(hr':aR w (bp E S L) (S.gh L) rest vs'):
  ∃X:Nat->Prop,qR w X/\(∀b,dS (L id)=some b->¬X b/\¬gb b)/\(∀q,Mv (L id) X q->bp E S L q)/\aR w (Mv (L id) X) dm (rest.map (TQ.fz S.H (some id) 9)) vs'/\(rest.all PV.bB=true->∀q,bp E S L q->Mv (L id) X q):=by
 have hmb:∀b,dS (L id)=some b->bp E S L b:=fun b hb=> .inl ⟨id,hN,hlive,hb⟩
 by_cases hall:rest.all PV.bB=true
 ·have hsub:∀q,Mv (L id) (fun q=>bp E S L q/\dS (L id)≠some q) q->bp E S L q:=by
   rintro q (hq|hq)
   ·exact hmb q hq
   ·exact hq.1
  refine⟨fun q=>bp E S L q/\dS (L id)≠some q,h.My fun q hq=>hq.1,fun b hb=>⟨fun hq=>hq.2 hb,E8 h (hmb b hb)⟩,hsub,hr'.rK hall hsub,fun _ q hq=> ?_⟩
  by_cases hb:dS (L id)=some q
  ·exact .inl hb
  ·exact .inr ⟨hq,hb⟩
 ·have hsub:∀q,Mv (L id) (fun _=>False) q->bp E S L q:=by
   rintro q (hq|hq)
   ·exact hmb q hq
   ·exact hq.elim
  refine⟨fun _=>False,h.x0,fun b hb=>⟨fun hq=>hq,E8 h (hmb b hb)⟩,hsub,?_,fun hq=>absurd hq hall⟩
  refine hr'.fz h hsub (fun j q hj hjl hne hjb hq=> ?_)
  rcases hq with hq|hq
  ·exact hne (by rw[h.apart j id q hj hN hjl hlive hjb hq])
  ·exact hq
theorem acB{f:FuncId}{m:Model}{e k:Nat}(hrow:∀es args r es',m.rm es args=some (r,es')->Ym P f e k es args r es')(h:Rel E S a w L){args:List PV}{vs:List Value}(hr:aR w (bp E S L) (S.gh L) args vs)(he:wc m e k S args=some (x,wr)):
  Calls P f vs.toArray w (fun en w'=>∃v L',en= .returned v/\Rel E (S.ei wr) a w' L'/\aW w' (bp E (S.ei wr) L') ((S.ei wr).gh L') x v):=by
 unfold wc at he;split at he
 case h_2=>cases he
 rename_i id ar rest;split at he
 case isFalse=>cases he
 rename_i hver;split at he
 case h_2=>cases he
 rename_i e' k' es hc;split at he
 case isFalse=>cases he
 rename_i hek;obtain⟨rfl,rfl,hok⟩:=hek;split at he
 case h_2=>cases he
 rename_i r es' hmm;split at he
 case isFalse=>cases he
 rename_i hcond;obtain⟨rfl,rfl⟩:=bW he;simp only[Qm,Qn]at hcond;obtain⟨⟨hc1,hc2⟩,hc3⟩:=hcond;obtain⟨v0,vs',rfl,r0,hr'⟩:=hr.cons_inv;obtain⟨hN,hv0⟩:=r0.kR (show(S.gh L).V id=ar from hver)
 have hv0:v0=L id:=hv0;subst hv0;have hlive:(S.H id).c.live=true:=by rw[hc];rfl
 obtain⟨us,hown,hk,hru⟩:=h.iI hN hc;obtain⟨X,hX,hXn,hsub,hargs,hsup⟩:=Rh h hN hlive hr';refine(hrow es _ r es' hmm w X hX (L id) vs' hXn ⟨us,DG hown,hk,hru.closed (F6 hok) hsub⟩ hargs).mono ?_;rintro en w' ⟨u,rfl,hrep,⟨us',hown',hk',hru'⟩,hfr⟩
 have hmm':∀q,bp E {S with H:=bS S.H id ⟨ar,.row e' k' es'⟩} (bS L id (L id)) q->bp E S L q:=by
  rintro q (⟨j,hj,hjl,hjb⟩|hq)
  ·simp only at hj hjl;have:bS L id (L id) j=L j:=by by_cases hji:j=id<;>simp[bS,hji]
   rw[this]at hjb
   by_cases hji:j=id
   ·subst hji;exact .inl ⟨j,hj,hlive,hjb⟩
   ·rw[cu _ _ hji]at hjl;exact .inl ⟨j,hj,hjl,hjb⟩
  ·exact .inr hq
 have hst:rest.all PV.bB=true->dj w' w' (Mv (L id) X) (bp E {S with H:=bS S.H id ⟨ar,.row e' k' es'⟩} (bS L id (L id))):=fun hall=>(dj.of fun _ hnm=>fun hq=>hnm (hsup hall _ (hmm' _ hq)))
 obtain⟨h2,hs2,hg2⟩:=h.og (w':=w') (hdr:=hfr.drawn) hN ⟨ar,.row e' k' es'⟩ (L id) (.inl ⟨hver.symm,rfl,hlive⟩) hfr.os hfr.tape hfr.output hfr.size
  (fun q hq hne=>hfr.block q hq (hne hlive)) (fun q _ hq=> .inl ⟨hlive,hq⟩)
  (fun hs2 hg2=>⟨us',Nd hown hown',hk',by
   rcases hc3 with hpl|hall
   ·exact hru'.plain (wy hpl)
   ·exact hru'.mono (hst hall) (dm.le _)⟩)
 refine⟨u,_,rfl,h2,?_⟩;rcases hc1 with hpl|hall
 ·exact hrep.qu hpl
 ·exact hrep.mono (hst hall.1) (dm.le _)
theorem acx{f:FuncId}{m:Model}{e k:Nat}(hrow:∀es args r es',m.rm es args=some (r,es')->Yn P f e k es args es')(h:Rel E S a w L){args:List PV}{vs:List Value}(hr:aR w (bp E S L) (S.gh L) args vs)(he:wb m e k S args=some (x,wr)):
  Calls P f vs.toArray w (fun en w'=>∃v L',en= .returned v/\Rel E (S.ei wr) a w' L'/\aW w' (bp E (S.ei wr) L') ((S.ei wr).gh L') x v):=by
 unfold wb at he;split at he
 case h_2=>cases he
 rename_i id ar rest;split at he
 case isFalse=>cases he
 rename_i hver;split at he
 case h_2=>cases he
 rename_i e' k' es hc;split at he
 case isFalse=>cases he
 rename_i hek;obtain⟨rfl,rfl,hok⟩:=hek;split at he
 case h_2=>cases he
 rename_i r es' hmm;split at he
 case isFalse=>cases he
 rename_i hcond;obtain⟨rfl,rfl⟩:=bW he;simp only[Qm,Qn]at hcond;obtain⟨hc2,hc3⟩:=hcond;obtain⟨v0,vs',rfl,r0,hr'⟩:=hr.cons_inv;obtain⟨hN,hv0⟩:=r0.kR (show(S.gh L).V id=ar from hver)
 have hv0:v0=L id:=hv0;subst hv0;have hlive:(S.H id).c.live=true:=by rw[hc];rfl
 obtain⟨us,hown,hk,hru⟩:=h.iI hN hc;obtain⟨X,hX,hXn,hsub,hargs,hsup⟩:=Rh h hN hlive hr';refine(hrow es _ r es' hmm w X hX (L id) vs' hXn ⟨us,DG hown,hk,hru.closed (F6 hok) hsub⟩ hargs).mono ?_;rintro en w' ⟨u,rfl,⟨us',hown',hk',hru'⟩,hub,hfr⟩
 have hEX:∀q,E.X q->dS (L id)≠some q:=by
  intro q hq hb;rcases hown.2 with⟨h4,_⟩|⟨g',cap',cur',h4,h5,_⟩
  ·rw[h4]at hb;cases hb
  ·have hbg:dS (L id)=some g':=by rw[h4];rfl
   rw[hb]at hbg;injection hbg with hbg
   subst hbg;rcases BN hb h5 with⟨h6,h7⟩|h6
   ·exact E.YE h6 q h7 hq
   ·have:=E.hX.lt q hq;omega
 have hst:rest.all PV.bB=true->dj w' w' (Mv u X) (bp E {S with H:=bS S.H id ⟨ar+1,.row e' k' es'⟩} (bS L id u)):=by
  intro hall;refine(dj.of fun _ hnm=>fun hq=>hnm ?_)
  rcases hq with⟨j,hj,hjl,hjb⟩|hq
  ·simp only at hj hjl
   by_cases hji:j=id
   ·subst hji;rw[ca]at hjb;exact .inl hjb
   ·rw[cu _ _ hji]at hjl hjb;rcases hsup hall _ (.inl ⟨j,hj,hjl,hjb⟩)with hq|hq
    ·exact absurd (h.apart j id _ hj hN hjl hlive hjb hq) hji
    ·exact .inr hq
  ·rcases hsup hall _ (.inr hq)with hq'|hq'
   ·exact absurd hq' (hEX _ hq)
   ·exact .inr hq'
 obtain⟨h2,hs2,hg2⟩:=h.og (w':=w') (hdr:=hfr.drawn) hN ⟨ar+1,.row e' k' es'⟩ u (.inr (by show(S.H id).ar<ar+1;omega)) hfr.os hfr.tape hfr.output hfr.size
  (fun q hq hne=>hfr.block q hq (hne hlive)) (fun q _ hq=>(hub q hq).imp (fun hb=>⟨hlive,hb⟩) (fun hb=>hb))
  (fun hs2 hg2=>⟨us',um hown hown' h.fr.size hub,hk',by
   rcases hc3 with hpl|hall
   ·exact hru'.plain (wy hpl)
   ·exact hru'.mono (hst hall) (dm.le _)⟩)
 obtain⟨ad,n,c,hu⟩:=xp hown';refine⟨u,_,rfl,h2,?_⟩;subst hu;exact .own _ _ _ _ _ hN (by simp[St.gh,St.ei,ca]) (fun _=>by simp[St.gh,St.ei,ca])
theorem ack{f:FuncId}{m:Model}{e k:Nat}(hrow:∀args r es',m.rm [] args=some (r,es')->Uf P f args e k es')(h:Rel E S a w L)(hn:nid<S.N){args:List PV}{vs:List Value}(hr:aR w (bp E S L) (S.gh L) args vs)(he:Bn m e k nid S args=some (x,wr)):
  Calls P f vs.toArray w (fun en w'=>∃v L',en= .returned v/\Rel E (S.ei wr) a w' L'/\aW w' (bp E (S.ei wr) L') ((S.ei wr).gh L') x v):=by
 unfold Bn at he;split at he
 case h_2=>cases he
 rename_i r es' hmm;split at he
 case isFalse=>cases he
 rename_i hcond;obtain⟨rfl,rfl⟩:=bW he;simp only[Qm,Qn]at hcond;obtain⟨hc2,hc3⟩:=hcond
 have key:∃X:Nat->Prop,qR w X/\aR w X dm (args.map (TQ.fz S.H none 9)) vs/\(args.all PV.bB=true->∀q,bp E S L q->X q):=by
  by_cases hall:args.all PV.bB=true
  ·exact⟨bp E S L,h.My fun q hq=>hq,hr.rK hall (fun q hq=>hq),fun _ q hq=>hq⟩
  ·exact⟨fun _=>False,h.x0,hr.fz h (fun q hq=>hq.elim) (fun j q hj hjl hne hjb hq=>hq),fun hq=>absurd hq hall⟩
 obtain⟨X,hX,hargs,hsup⟩:=key;refine(hrow _ r es' hmm w X hX vs hargs).mono ?_;rintro en w' ⟨u,rfl,⟨us',hown',hk',hru'⟩,hub,hfr⟩
 have hst:args.all PV.bB=true->dj w' w' (Mv u X) (bp E {S with H:=bS S.H nid ⟨(S.H nid).ar+1,.row e k es'⟩} (bS L nid u)):=by
  intro hall;refine(dj.of fun _ hnm=>fun hq=>hnm ?_)
  rcases hq with⟨j,hj,hjl,hjb⟩|hq
  ·simp only at hj hjl
   by_cases hji:j=nid
   ·subst hji;rw[ca]at hjb;exact .inl hjb
   ·rw[cu _ _ hji]at hjl hjb;exact .inr (hsup hall _ (.inl ⟨j,hj,hjl,hjb⟩))
  ·exact .inr (hsup hall _ (.inr hq))
 obtain⟨h2,hs2,hg2⟩:=h.og (w':=w') (hdr:=hfr.drawn) hn ⟨(S.H nid).ar+1,.row e k es'⟩ u (.inr (Nat.lt_succ_self _)) hfr.os hfr.tape hfr.output hfr.size
  (fun q hq _=>hfr.block q hq (by simp)) (fun q _ hq=> .inr (hub q hq))
  (fun hs2 hg2=>⟨us',um (v:= .slice none 0 0) (World.ownsRow_nil w _ _ _) hown' h.fr.size (fun g hg=> .inr (hub g hg)),hk',by
   rcases hc3 with hpl|hall
   ·exact hru'.plain (wy hpl)
   ·exact hru'.mono (hst hall) (dm.le _)⟩)
 obtain⟨ad,n,c,hu⟩:=xp hown';refine⟨u,_,rfl,h2,?_⟩;subst hu;exact .own _ _ _ _ _ hn (by simp[St.gh,St.ei,ca]) (fun _=>by simp[St.gh,St.ei,ca])
theorem ZE{f g:FuncId}{e k:Nat}{args:List PV}{es':List (List PV)}(hcon:Ud P f g (args.map (TQ.fz S.H none 9)) e k es')(h:Rel E S a w L)(hn:nid<S.N){vs:List Value}(hr:aR w (bp E S L) (S.gh L) args vs)
  (hc:(yz es'||args.all PV.bB)=true):
  Calls P f vs.toArray w fun en w1=>∃v,en= .returned v/\Calls P g #[v] w1 fun en w'=>∃u L',en= .returned u/\Rel E {S with H:=bS S.H nid ⟨(S.H nid).ar+1,.row e k es'⟩} a w' L'/\
   aW w' (bp E {S with H:=bS S.H nid ⟨(S.H nid).ar+1,.row e k es'⟩} L') (St.gh {S with H:=bS S.H nid ⟨(S.H nid).ar+1,.row e k es'⟩} L') (.own nid ((S.H nid).ar+1)) u:=by
 have key:∃X:Nat->Prop,qR w X/\aR w X dm (args.map (TQ.fz S.H none 9)) vs/\(args.all PV.bB=true->∀q,bp E S L q->X q):=by
  by_cases hall:args.all PV.bB=true
  ·exact⟨bp E S L,h.My fun q hq=>hq,hr.rK hall (fun q hq=>hq),fun _ q hq=>hq⟩
  ·exact⟨fun _=>False,h.x0,hr.fz h (fun q hq=>hq.elim) (fun j q hj hjl hne hjb hq=>hq),fun hq=>absurd hq hall⟩
 obtain⟨X,hX,hargs,hsup⟩:=key;refine(hcon w X hX vs hargs).mono ?_;rintro en w1 ⟨v,rfl,hcall⟩;refine⟨v,rfl,hcall.mono ?_⟩;rintro en w' ⟨u,rfl,⟨us',hown',hk',hru'⟩,hub,hfr⟩;rw[Qn]at hc
 have hst:args.all PV.bB=true->dj w' w' (Mv u X) (bp E {S with H:=bS S.H nid ⟨(S.H nid).ar+1,.row e k es'⟩} (bS L nid u)):=by
  intro hall;refine(dj.of fun _ hnm=>fun hq=>hnm ?_)
  rcases hq with⟨j,hj,hjl,hjb⟩|hq
  ·simp only at hj hjl
   by_cases hji:j=nid
   ·subst hji;rw[ca]at hjb;exact .inl hjb
   ·rw[cu _ _ hji]at hjl hjb;exact .inr (hsup hall _ (.inl ⟨j,hj,hjl,hjb⟩))
  ·exact .inr (hsup hall _ (.inr hq))
 obtain⟨h2,hs2,hg2⟩:=h.og (w':=w') (hdr:=hfr.drawn) hn ⟨(S.H nid).ar+1,.row e k es'⟩ u (.inr (Nat.lt_succ_self _)) hfr.os hfr.tape hfr.output hfr.size
  (fun q hq _=>hfr.block q hq (by simp)) (fun q _ hq=> .inr (hub q hq))
  (fun hs2 hg2=>⟨us',um (v:= .slice none 0 0) (World.ownsRow_nil w _ _ _) hown' h.fr.size (fun g hg=> .inr (hub g hg)),hk',by
   rcases hc with hpl|hall
   ·exact hru'.plain (wy hpl)
   ·exact hru'.mono (hst hall) (dm.le _)⟩)
 obtain⟨ad,n,c,hu⟩:=xp hown';refine⟨u,_,rfl,h2,?_⟩;subst hu;exact .own _ _ _ _ _ hn (by simp[St.gh,ca]) (fun _=>by simp[St.gh,ca])
theorem aa2{f:FuncId}{cs ds cs' ds':List PV}(hcon:Ug P f (cs.map TQ.nz) (ds.map TQ.nz) cs' ds')(h:Rel E S a w L){i j v u:Nat}{x y:Value}(rx:aW w (bp E S L) (S.gh L) (.ptr i v 0) x)(ry:aW w (bp E S L) (S.gh L) (.ptr j u 0) y)
  (hi:(S.H i).ar=v) (hj:(S.H j).ar=u) (ci:(S.H i).c= .box cs) (cj:(S.H j).c= .box ds) (hne:i≠j) (k1:cs.all PV.closed=true) (k2:ds.all PV.closed=true):
  Calls P f #[x,y] w fun e w'=>∃L',e= .returned (.tuple #[])/\Rel E {S with H:=bS (bS S.H i ⟨v,.box cs'⟩) j ⟨u,.box ds'⟩} a w' L':=by
 obtain⟨hNi,_⟩:=rx.mM (show(S.gh L).V i=v from hi)
 obtain⟨hNj,_⟩:=ry.mM (show(S.gh L).V j=u from hj)
 obtain⟨b,hx,hLb⟩:=h.nD rx hi ci;obtain⟨c,hy,hLc⟩:=h.nD ry hj cj;obtain⟨b',cur,T,hL',hh,hr,hE⟩:=h.nf hNi ci;rw[hLb]at hL';simp only[Value.pointer.injEq,Qf,Addr.mk.injEq]at hL';obtain⟨rfl,_⟩:=hL';obtain⟨c',cur2,T2,hL',hh2,hr2,hE2⟩:=h.nf hNj cj;rw[hLc]at hL';simp only[Value.pointer.injEq,Qf,Addr.mk.injEq]at hL';obtain⟨rfl,_⟩:=hL';have li:(S.H i).c.live=true:=by rw[ci];rfl
 have lj:(S.H j).c.live=true:=by rw[cj];rfl
 have hbc:b≠c:=fun e=>hne (h.apart i j b hNi hNj li lj (by rw[hLb];rfl) (by rw[hLc,e];rfl))
 have mb:bp E S L b:= .inl ⟨i,hNi,li,by rw[hLb];rfl⟩
 have mc:bp E S L c:= .inl ⟨j,hNj,lj,by rw[hLc];rfl⟩
 subst hx hy;refine(hcon w (bp E S L) b c T T2 cur.toList cur2.toList (h.My fun q hq=>hq) mb mc hbc (by simpa using hh) (by simpa using hh2) (hr.closed k1 fun q hq=>hq).nz (hr2.closed k2 fun q hq=>hq).nz).mono ?_
 rintro e w' ⟨us',vs',T',U',rfl,g1,g2,r1,r2,fr⟩;have hcw:c<w'.heap.size:=(Q8.1 g2).1;obtain⟨w1,hw1⟩:∃w1:World,w1={w' with heap:=w'.heap.setIfInBounds c (.cells cur2 T2 (0,0))}:=⟨_,rfl⟩
 have w1c:w1.heap[c]?=w.heap[c]?:=by rw[hw1,hh2];simp[Array.getElem?_setIfInBounds_self_of_lt hcw]
 have w1o:∀q,q≠c->w1.heap[q]?=w'.heap[q]?:=fun q hq=>by rw[hw1];exact Array.getElem?_setIfInBounds_ne (fun e=>hq e.symm)
 have w1s:w1.heap.size=w'.heap.size:=by rw[hw1];simp
 have hsub:∀q,bp E {S with H:=bS S.H i ⟨v,.box cs'⟩} (bS L i (L i)) q->bp E S L q:=by
  rintro q (⟨p,hp,hpl,hpb⟩|hq)
  ·simp only at hp hpl
   by_cases hpi:p=i
   ·subst hpi;rw[ca]at hpb;exact .inl ⟨p,hp,li,hpb⟩
   ·rw[cu _ _ hpi]at hpl hpb;exact .inl ⟨p,hp,hpl,hpb⟩
  ·exact .inr hq
 have hst1:dj w' w1 (bp E S L) (bp E {S with H:=bS S.H i ⟨v,.box cs'⟩} (bS L i (L i))):=by
  refine⟨fun p z hp hm=>⟨?_,fun hq=>hm (hsub _ hq)⟩,fun q es ck hq hm=>⟨?_,fun hq=>hm (hsub _ hq)⟩⟩
  ·rw[World.cell?_of_block (w1o _ fun e=>hm (by rw[e];exact mc))];exact hp
  ·rw[w1o _ fun e=>hm (by rw[e];exact mc)];exact hq
 obtain⟨h1,_,_⟩:=h.og (w':=w1) (hdr:=by rw[hw1];exact fr.drawn) hNi ⟨v,.box cs'⟩ (L i) (.inl ⟨hi.symm,rfl,li⟩) (by rw[hw1];exact fr.os) (by rw[hw1];exact fr.tape) (by rw[hw1];exact fr.output) (by rw[w1s];exact fr.size)
  (fun q hq hb=>by
   by_cases hqc:q=c
   ·rw[hqc];exact w1c
   ·rw[w1o q hqc];exact fr.block q hq (fun e=>hb li (by rw[hLb,e];rfl)) hqc)
  (fun q _ hq=> .inl ⟨li,hq⟩)
  (fun _ _=>⟨b,us'.toArray,T',hLb,by rw[w1o b hbc];exact g1,hE,(r1.mono hst1 (dm.le _))⟩)
 have hsub2:∀q,bp E {S with H:=bS (bS S.H i ⟨v,.box cs'⟩) j ⟨u,.box ds'⟩} (bS (bS L i (L i)) j (bS L i (L i) j)) q->bp E S L q:=by
  rintro q (⟨p,hp,hpl,hpb⟩|hq)
  ·simp only at hp hpl
   have hLp:bS (bS L i (L i)) j (bS L i (L i) j) p=L p:=by
    unfold bS;split
    ·rename_i e;rw[e];split
     ·rename_i e2;rw[e2]
     ·rfl
    ·split
     ·rename_i e;rw[e]
     ·rfl
   rw[hLp]at hpb
   by_cases hpj:p=j
   ·subst hpj;exact .inl ⟨p,hp,lj,hpb⟩
   ·rw[cu _ _ hpj]at hpl
    by_cases hpi:p=i
    ·subst hpi;exact .inl ⟨p,hp,li,hpb⟩
    ·rw[cu _ _ hpi]at hpl;exact .inl ⟨p,hp,hpl,hpb⟩
  ·exact .inr hq
 have hji:j≠i:=fun e=>hne e.symm
 have hLj:bS L i (L i) j=L j:=cu _ _ hji;have hHj:bS S.H i ⟨v,.box cs'⟩ j=S.H j:=cu _ _ hji
 obtain⟨h2,_,_⟩:=h1.og (w':=w') (hdr:=by rw[hw1];exact DL.refl _) (id:=j) hNj ⟨u,.box ds'⟩ (bS L i (L i) j) (.inl ⟨by simp only[hHj];exact hj.symm,rfl,by simp only[hHj];exact lj⟩) (by rw[hw1]) (by rw[hw1]) (by rw[hw1]) (by rw[w1s];exact QI _)
  (fun q hq hb=>(w1o q fun e=>hb (by simp only[hHj];exact lj) (by rw[hLj,hLc,e];rfl)).symm)
  (fun q _ hq=> .inl ⟨by simp only[hHj];exact lj,hq⟩)
  (fun _ _=>⟨c,vs'.toArray,U',by rw[hLj];exact hLc,g2,hE2,r2.mono (dj.of fun q hm hq=>hm (hsub2 q hq)) (dm.le _)⟩)
 exact⟨_,rfl,h2⟩
theorem aR.aaA{M:Nat->Prop}{G:Gh}{args:List PV}{vs:List Value}(hr:aR w M G args vs){p:Nat}{y:PV}(hp:args[p]?=some y):
  ∃v0,aW w M G y v0/\aR w M G (cutAt p args) (cutAt p vs)/\ic p [v0] (cutAt p vs)=vs:=by
 obtain⟨v0,hv0,hrep⟩:=hr.get hp;refine⟨v0,hrep,(hr.take p).append (hr.drop (p+1)),?_⟩;have hlt:p<vs.length:=(Qw.1 hv0).1;have ht:(vs.take p).length=p:=by simp;omega
 have e1:(cutAt p vs).take p=vs.take p:=by
  unfold cutAt;rw[List.take_append_of_le_length (by omega)]
  rw[List.take_take,Nat.min_self]
 have e2:(cutAt p vs).drop p=vs.drop (p+1):=by
  unfold cutAt;rw[List.drop_append_of_le_length (by omega)]
  rw[List.drop_of_length_le (by omega),List.nil_append]
 unfold ic;rw[e1,e2]
 have h3:vs.drop p=v0::vs.drop (p+1):=by
  rw[QM hlt];congr 1;rw[Qv hlt]at hv0;injection hv0
 rw[QL,List.singleton_append,<-h3,List.take_append_drop]
theorem Ke(hΓ:nW P Γ)(h:Rel E S a w L)(hn:nid<S.N){f:FuncId}{args:List PV}{vs:List Value}(hr:aR w (bp E S L) (S.gh L) args vs)(he:kJ Γ nid S f args=some (x,wr)):
  Enters P f/\Calls P f vs.toArray w (fun e w'=>∃v L',e= .returned v/\Rel E (S.ei wr) a w' L'/\aW w' (bp E (S.ei wr) L') ((S.ei wr).gh L') x v):=by
 unfold kJ at he;split at he
 ·cases he
 ·rename_i m hm;obtain⟨hen,hcon,hconN,hrow,hro⟩:=hΓ f m hm;refine⟨hen,?_⟩;split at he
  ·rename_i e k hrk;rw[Cy,hrk]at hrow;exact acB hrow h hr he
  ·rename_i e k hrk;rw[Cy,hrk]at hrow;exact acx hrow h hr he
  ·rename_i e k hrk;rw[Cy,hrk]at hrow;exact ack hrow h hn hr he
  split at he
  ·rename_i hfresh;split at he
   ·rename_i r0 cs hmm;split at he
    ·rename_i hcond;obtain⟨rfl,rfl⟩:=bW he;simp only[Qm,Qn]at hcond;obtain⟨hc1,hc2⟩:=hcond
     have key:∃X:Nat->Prop,qR w X/\aR w X dm (args.map (TQ.fz S.H none 9)) vs/\(args.all PV.bB=true->∀q,bp E S L q->X q):=by
      by_cases hall:args.all PV.bB=true
      ·exact⟨bp E S L,h.My fun q hq=>hq,hr.rK hall (fun q hq=>hq),fun _ q hq=>hq⟩
      ·exact⟨fun _=>False,h.x0,hr.fz h (fun q hq=>hq.elim) (fun j q hj hjl hne hjb hq=>hq),fun hq=>absurd hq hall⟩
     obtain⟨X,hX,hargs,hsup⟩:=key;refine(hconN hfresh _ _ _ hmm w X hX vs hargs).mono ?_;rintro e w' ⟨b,rvs,T,rfl,hbge,hh,hrc,hfr⟩
     have hmq:args.all PV.bB=true->∀q,bp E {S with H:=bS S.H nid ⟨(S.H nid).ar+1,.box cs⟩} (bS L nid (.pointer (some ⟨b,0,none⟩))) q->X q\/q=b:=by
      rintro hall q (⟨j,hj,hjl,hjb⟩|hq)
      ·simp only at hj hjl
       by_cases hji:j=nid
       ·subst hji;rw[ca]at hjb;simp only[dS,Qf]at hjb;exact .inr hjb.symm
       ·rw[cu _ _ hji]at hjl hjb;exact .inl (hsup hall q (.inl ⟨j,hj,hjl,hjb⟩))
      ·exact .inl (hsup hall q (.inr hq))
     obtain⟨h2,hs2,hg2⟩:=h.og (w':=w') (hdr:=hfr.drawn) hn ⟨(S.H nid).ar+1,.box cs⟩ (.pointer (some ⟨b,0,none⟩)) (.inr (Nat.lt_succ_self _)) hfr.os hfr.tape hfr.output hfr.size (fun q hq _=>hfr.block q hq (by simp))
      (fun q _ hq=> .inr (by simp only[dS,Qf]at hq;omega))
      (fun hs2 hg2=>⟨b,rvs.toArray,T,rfl,hh,.inr (QK h.fr.size hbge),by
       simp only;rcases hc2 with hpl|hall
       ·exact hrc.plain hpl
       ·exact hrc.mono (dj.of fun _ hn' hq=>hn' (hmq hall _ hq)) (dm.le _)⟩)
     refine⟨_,_,rfl,h2,?_⟩;exact .ptr _ _ _ _ hn (by simp[St.gh,St.ei,ca]) (fun _=>by simp[St.gh,St.ei,ca,dS])
    ·cases he
   ·cases he
  rename_i hnf;have hnf':m.fresh=false:=by simpa using hnf
  have hcon:=hcon hnf';split at he
  ·rename_i hrecv;split at he
   ·rename_i id ar hpos;generalize hrest:cutAt m.pos args=rest at he;split at he
    ·rename_i hver;split at he
     ·rename_i cs hc;split at he
      ·rename_i hcl;split at he
       ·rename_i r cs' hmm;split at he
        ·rename_i hcond;obtain⟨rfl,rfl⟩:=bW he
         have hwr:S.ei (if(m.ro&&cs.all PV.No)=true then none else some (id,(⟨ar,.box cs'⟩:fc)))=S.ei (some (id,⟨ar,.box cs'⟩)):=by
          split
          ·rename_i hq;rw[Qm]at hq
           have e1:cs.map TQ.nz=cs:=by
            rw[Qq70 (g:=fun y=>y) fun y hy=>by have:=QH.1 hq.2 y hy;cases y<;>first|rfl|cases this]
            simp
           have e2:=hro hq.1 _ _ _ _ hmm;rw[e1]at e2;rw[e2];show S={S with H:=bS S.H id ⟨ar,.box cs⟩}
           have e3:(⟨ar,.box cs⟩:fc)=S.H id:=by rw[<-hver,<-hc]
           rw[e3]
           have e4:bS S.H id (S.H id)=S.H:=by
            funext j;unfold bS;split
            ·rename_i e;rw[e]
            ·rfl
           rw[e4]
          ·rfl
         rw[hwr];simp only[Qm,Qn]at hcond;obtain⟨⟨⟨hc1,hc2⟩,hc3⟩,hc4⟩:=hcond;obtain⟨v0,r0,hr',hins⟩:=hr.aaA hpos;rw[hrest]at hr';generalize cutAt m.pos vs=vs' at hr' hins;obtain⟨hN,_⟩:=r0.mM (show(S.gh L).V id=ar from hver)
         obtain⟨b,hv0,hL⟩:=h.nD r0 hver hc;obtain⟨b',cur,T,hL',hh,hrc,hE⟩:=h.nf hN hc;rw[hL]at hL';simp only[Value.pointer.injEq,Qf,Addr.mk.injEq]at hL';obtain⟨rfl,_⟩:=hL';have hmb:bp E S L b:= .inl ⟨id,hN,by rw[hc];rfl,by rw[hL];rfl⟩
         have key:∃X:Nat->Prop,qR w X/\(∀q,Mc true b X q->bp E S L q)/\aR w (Mc true b X) dm (rest.map (TQ.fz S.H (some id) 9)) vs'/\(rest.all PV.bB=true->∀q,bp E S L q->Mc true b X q):=by
          by_cases hall:rest.all PV.bB=true
          ·refine⟨bp E S L,h.My fun q hq=>hq,fun q hq=> ?_,?_,fun _ q hq=> .inr hq⟩
           ·rcases hq with⟨_,rfl⟩|hq
            ·exact hmb
            ·exact hq
           ·exact hr'.rK hall (fun q hq=>by
             rcases hq with⟨_,rfl⟩|hq
             ·exact hmb
             ·exact hq)
          ·refine⟨fun _=>False,h.x0,fun q hq=> ?_,?_,fun hq=>absurd hq hall⟩
           ·rcases hq with⟨_,rfl⟩|hq
            ·exact hmb
            ·exact hq.elim
           ·refine hr'.fz h (fun q hq=> ?_) (fun j q hj hjl hne hjb hq=> ?_)
            ·rcases hq with⟨_,rfl⟩|hq
             ·exact hmb
             ·exact hq.elim
            ·rcases hq with⟨_,rfl⟩|hq
             ·exact hne (by rw[h.apart j id q hj hN hjl (by rw[hc];rfl) hjb (by rw[hL];rfl)])
             ·exact hq
         obtain⟨X,hX,hsub,hargs,hsup⟩:=key;have hcall:=hcon (cs.map TQ.nz) (rest.map (TQ.fz S.H (some id) 9)) r cs' hmm w X hX b T cur.toList vs' (fun _=>⟨by simpa using hh,by rw[hrecv];exact(hrc.closed hcl hsub).nz,E8 h hmb⟩) (by rw[hrecv];exact hargs)
         rw[hrecv]at hcall;have hargsv:(ic m.pos (pV true b) vs').toArray=vs.toArray:=by rw[<-hins,hv0];rfl
         rw[hargsv]at hcall;refine hcall.mono ?_;rintro e w' ⟨v,rvs',rfl,hrep,hrv,hfr⟩;obtain⟨⟨T',hh'⟩,hrc'⟩:=hrv rfl;simp only[Qt]at hfr
         have hmm':∀q,bp E {S with H:=bS S.H id ⟨ar,.box cs'⟩} (bS L id (L id)) q->bp E S L q:=by
          rintro q (⟨j,hj,hjl,hjb⟩|hq)
          ·simp only at hj hjl;have:bS L id (L id) j=L j:=by by_cases hji:j=id<;>simp[bS,hji]
           rw[this]at hjb
           by_cases hji:j=id
           ·subst hji;exact .inl ⟨j,hj,by rw[hc];rfl,hjb⟩
           ·rw[cu _ _ hji]at hjl;exact .inl ⟨j,hj,hjl,hjb⟩
          ·exact .inr hq
         have hst:rest.all PV.bB=true->dj w' w' (Mc true b X) (bp E {S with H:=bS S.H id ⟨ar,.box cs'⟩} (bS L id (L id))):=fun hall=>(dj.of fun _ hnm=>fun hq=>hnm (hsup hall _ (hmm' _ hq)))
         obtain⟨h2,hs2,hg2⟩:=h.og (w':=w') (hdr:=hfr.drawn) hN ⟨ar,.box cs'⟩ (L id) (.inl ⟨hver.symm,rfl,by rw[hc];rfl⟩) hfr.os hfr.tape hfr.output hfr.size
          (fun q hq hne=>hfr.block q hq (fun eq=>hne (by rw[hc];rfl) (by rw[hL];exact eq)))
          (fun q _ hq=> .inl ⟨by rw[hc];rfl,hq⟩)
          (fun hs2 hg2=>⟨b,rvs'.toArray,T',hL,hh',hE,by
           simp only;rcases hc4 with hpl|hall
           ·exact hrc'.plain hpl
           ·exact hrc'.mono (hst hall) (dm.le _)⟩)
         refine⟨v,_,rfl,h2,?_⟩;rcases hc1 with hpl|hall
         ·exact hrep.qu hpl
         ·exact hrep.mono (hst hall) (dm.le _)
        ·cases he
       ·cases he
      ·cases he
     ·cases he
    ·cases he
   ·cases he
  ·rename_i hrecv;split at he
   ·rename_i r cs' hmm;split at he
    ·rename_i hcond;obtain⟨rfl,rfl⟩:=bW he;simp only[Qn,Qm]at hcond;have hrecv':m.recv=false:=by simpa using hrecv
     have key:∃X:Nat->Prop,qR w X/\aR w (Mc false 0 X) dm (args.map (TQ.fz S.H none 9)) vs/\(args.all PV.bB=true->∀q,bp E S L q->Mc false 0 X q):=by
      by_cases hall:args.all PV.bB=true
      ·refine⟨bp E S L,h.My fun q hq=>hq,?_,fun _ q hq=> .inr hq⟩
       exact hr.rK hall (fun q hq=>by
        rcases hq with⟨hq,_⟩|hq
        ·cases hq
        ·exact hq)
      ·refine⟨fun _=>False,h.x0,?_,fun hq=>absurd hq hall⟩
       refine hr.fz h (fun q hq=> ?_) (fun j q hj hjl hne hjb hq=> ?_)
       ·rcases hq with⟨hq,_⟩|hq
        ·cases hq
        ·exact hq.elim
       ·rcases hq with⟨hq,_⟩|hq
        ·cases hq
        ·exact hq
     obtain⟨X,hX,hargs,hsup⟩:=key;have hcall:=hcon [] (args.map (TQ.fz S.H none 9)) r cs' hmm w X hX 0 0 [] vs (fun hq=>by rw[hrecv']at hq;cases hq) (by rw[hrecv'];exact hargs)
     rw[hrecv']at hcall;simp only[pV,Qq,Qu,K7]at hcall;refine hcall.mono ?_;rintro e w' ⟨v,rvs',rfl,hrep,_,hfr⟩;simp only[Qq,Qu]at hfr;obtain⟨h2,hs2⟩:=h.grow (w':=w') hfr.os hfr.tape hfr.output hfr.size (fun q hq=>hfr.block q hq (by simp)) hfr.drawn
     refine⟨v,L,rfl,h2,?_⟩;rcases hcond with hpl|⟨hall,_⟩
     ·exact hrep.qu hpl
     ·exact hrep.mono (dj.of fun _ hnm=>fun hq=>hnm (hsup hall _ hq)) (dm.le _)
    ·cases he
   ·cases he
end
end
section
open Go.RowKit
section
variable {P : Program} {E : En} {S : St} {a : Act} {w : World} {L : Nat -> Value} {o : Oper} {x : PV} {wr : Option (Nat × fc)} {Γ : nk} {nid : Nat} {hs : List Nat}
theorem BC{α:Type}(f:Nat->α)(i:Nat):bS f i (f i)=f:=by
 funext j;unfold bS;split
 ·rename_i h;rw[h]
 ·rfl
theorem Rel.kill(h:Rel E S a w L){id:Nat}(hid:id<S.N)(hl:(S.H id).c.live=true):Rel E {S with H:=bS S.H id ⟨(S.H id).ar,.dead⟩} a w L:=by
 have:=(h.og (w':=w) hid ⟨(S.H id).ar,.dead⟩ (L id) (.inl ⟨rfl,rfl,hl⟩) rfl rfl rfl (QI _) (fun _ _ _=>rfl) (fun b hl=>by cases hl) (fun _ _=>trivial)).1
 rwa [BC]at this
theorem Rel.aci(h:Rel E S a w L){id e k:Nat}{es:List (List PV)}(hN:id<S.N)(hc:(S.H id).c= .row e k es)(hcl:∀u∈es,u.all PV.closed=true):
  Rel E {S with H:=bS S.H id ⟨(S.H id).ar,.dead⟩} a w L/\∀v,v=L id->aW w (bp E {S with H:=bS S.H id ⟨(S.H id).ar,.dead⟩} L) (St.gh {S with H:=bS S.H id ⟨(S.H id).ar,.dead⟩} L) (.sl es) v:=by
 have hlive:(S.H id).c.live=true:=by rw[hc];rfl
 refine⟨h.kill hN hlive,fun v hv=> ?_⟩
 obtain⟨vs,hown,hk,hr⟩:=h.iI hN hc;rw[hv]
 have hM:∀b,bp E {S with H:=bS S.H id ⟨(S.H id).ar,.dead⟩} L b->bp E S L b/\(dS (L id)=some b->E.X b):=by
  rintro b (⟨j,hj,hlv,hb⟩|hx)
  ·simp only at hj hlv
   by_cases hji:j=id
   ·subst hji;rw[ca]at hlv;cases hlv
   ·rw[cu _ _ hji]at hlv;exact⟨.inl ⟨j,hj,hlv,hb⟩,fun hb'=>absurd (h.apart j id b hj hN hlv hlive hb hb') hji⟩
  ·exact⟨.inr hx,fun _=>hx⟩
 rcases hown.2 with⟨hL,h0⟩|⟨g,cap,cur,hL,hb1,hh,hnc,hcm,_⟩
 ·have:es=[]:=Qq66 h0;subst this;rw[hL];exact .slnil
 ·rw[hL]
  have hcf:es.flatten.all PV.closed=true:=by
   refine QH.2 fun y hy=> ?_
   obtain⟨u,hu,hyu⟩:=List.mem_flatten.1 hy;exact QH.1 (hcl u hu) y hyu
  have hr2:=aR.closed (M':=bp E {S with H:=bS S.H id ⟨(S.H id).ar,.dead⟩} L) (G':=dm) hcf (fun b hb=>(hM b hb).1) hr
  refine .sl _ _ _ k vs hk hr2.1 (fun i u hu=>⟨hown.cells (g:=g) (by rw[hL];rfl) i u hu,fun hm=> ?_⟩) hr2.2 (by simpa using hnc) hcm
  have hxg:=(hM g hm).2 (by rw[hL];rfl)
  have hbg:dS (L id)=some g:=by rw[hL];rfl
  rcases BN hbg hb1 with⟨h6,h7⟩|h6
  ·exact E.YE h6 g h7 hxg
  ·have:=E.hX.lt g hxg;omega
theorem Rel.zX(h:Rel E S a w L){id e k:Nat}{es:List (List PV)}{v:Value}(r:aW w (bp E S L) (S.gh L) (.own id (S.H id).ar) v)(hc:(S.H id).c= .row e k es)(hcl:∀u∈es,u.all PV.closed=true):
  Rel E {S with H:=bS S.H id ⟨(S.H id).ar,.dead⟩} a w L/\aW w (bp E {S with H:=bS S.H id ⟨(S.H id).ar,.dead⟩} L) (St.gh {S with H:=bS S.H id ⟨(S.H id).ar,.dead⟩} L) (.sl es) v:=by
 obtain⟨hN,hv⟩:=r.kR (show(S.gh L).V id=(S.H id).ar from rfl)
 obtain⟨h1,h2⟩:=h.aci hN hc hcl;exact⟨h1,h2 v hv⟩
theorem Yb{e k b:Nat}{s y:bg}(he:exec Γ nid S (.cZ true e k b s y)=some (x,wr)):∃id ar es,exec Γ nid S (.cZ false e k b s y)=some (.own id ar,some (id,⟨ar,.row e k es⟩))/\x= .sl es/\wr=some (id,⟨ar,.dead⟩)/\∀u∈es,u.all PV.closed=true:=by
 have key:∀{id ar:Nat} {es:List (List PV)},EA true id ar e k es=some (x,wr)->∃id' ver' es',EA false id ar e k es=some (.own id' ver',some (id',⟨ver',.row e k es'⟩))/\x= .sl es'/\wr=some (id',⟨ver',.dead⟩)/\∀u∈es',u.all PV.closed=true:=by
  intro id ar es h;simp only[EA]at h;split at h
  ·rename_i hall;obtain⟨rfl,rfl⟩:=bW h;exact⟨id,ar,es,rfl,rfl,rfl,fun u hu=>QH.1 hall u hu⟩
  ·cases h
 simp only[exec]at he ⊢;split at he
 ·rename_i news hn;split at he
  ·rename_i hall;simp only[hall,Qt];split at he
   ·split at he
    ·rename_i hb;rw[Qr hb];exact key he
    ·cases he
   ·rename_i id ar hv;split at he
    ·rename_i hver;rw[Qr hver];split at he
     ·rename_i e' k' es hc;split at he
      ·rename_i hb;simp only[Qr hb];exact key he
      ·cases he
     ·cases he
    ·cases he
   ·cases he
  ·cases he
 ·cases he
theorem Good.zX{id ar e k:Nat}{es:List (List PV)}(h:Good P E S a w o (.own id ar) (some (id,⟨ar,.row e k es⟩)))(hcl:∀u∈es,u.all PV.closed=true):Good P E S a w o (.sl es) (some (id,⟨ar,.dead⟩)):=by
 obtain⟨nx,w',L',v,h1,h2,h3,h4⟩:=h;have hH:(S.ei (some (id,⟨ar,.row e k es⟩))).H id=⟨ar,.row e k es⟩:=ca _ _ _;have hv:((S.ei (some (id,⟨ar,.row e k es⟩))).H id).ar=ar:=by rw[hH]
 have hc:((S.ei (some (id,⟨ar,.row e k es⟩))).H id).c= .row e k es:=by rw[hH]
 generalize hS:S.ei (some (id,⟨ar,.row e k es⟩))=S1 at h3 h4 hH hv hc;rw[<-hv]at h3;obtain⟨g1,g2⟩:=h4.zX h3 hc hcl;rw[hv,<-hS]at g1 g2
 have e1:({S.ei (some (id,⟨ar,.row e k es⟩))with H:=bS (S.ei (some (id,⟨ar,.row e k es⟩))).H id ⟨ar,.dead⟩}:St)=S.ei (some (id,⟨ar,.dead⟩)):=by
  unfold St.ei;simp only[St.mk.injEq,true_and,and_true]
  funext j
  unfold bS;split<;>rfl
 rw[e1]at g1 g2;exact⟨nx,w',L',v,h1,h2,g2,g1⟩
theorem uc{f:FuncId}(hen:Enters P f)(args:Array Value):(callFunc f args).run P w= .ok (.enter f args) w:=by
 obtain⟨fn,hf,hb,hn⟩:=hen;have hb':¬fn.body=none:=by intro e;rw[e]at hb;cases hb
 have hn':¬fn.name= "runtime.NumGoroutine":=by simpa using hn
 simp[callFunc,program,Sem.run,hf,hb',hn']
theorem Kd{f:FuncId}{args:Array Value}(hrun:(execOp a.eval o).run P w= .ok (.enter f args) w)
  (hcall:Calls P f args w (fun e w'=>∃v L',e= .returned v/\Rel E (S.ei wr) a w' L'/\aW w' (bp E (S.ei wr) L') ((S.ei wr).gh L') x v)) (hnd:Fv o) (hd:∀t,o.dst=some t->E.can t) {K:Act->World->Prop} {Q:Exit->Act->World->Prop}
  (hK:∀a' w' L',Rel E (S.cZ o.dst x wr) a' w' L'->K a' w'):o.wpIn (WF E.rd) 0 P a w K Q:=by
 unfold Oper.wpIn;rw[Oper.semAt_eq _ _ _ hnd,hrun];refine⟨fun _ _=>trivial,(fun h=>by cases h),uK.2 (Calls.mono hcall ?_)⟩
 rintro e w' ⟨v,L',rfl,h1,h2⟩;exact hK _ _ _ (show Rel E (S.cZ o.dst x wr) (a.put o.dst v) w' L' from h1.SW hd h2)
theorem zd{f:FuncId}{xs:List bg}(hc:I4 P hs o=some (.call f xs)):∃(args:Array Operand) (ats:Array TypeId),o.op= .call {callee:= .value (.func f),args:=args,argTypes:=ats}/\args.toList.mapM bb=some xs:=by
 unfold I4 at hc;split at hc
 case h_22 fop args ats hop=>
  simp only[Qd,Qc]at hc;obtain⟨ys,hys,hc⟩:=hc;split at hc
  ·injection hc with hc
   injection hc with h1 h2
   subst h1 h2;exact⟨_,_,hop,hys⟩
  ·simp only[Qc,Qf,reduceCtorEq,and_false,exists_false]at hc
 all_goals (repeat' split at hc)<;>(try simp only[Qd,Qc,Qf,reduceCtorEq,and_false,exists_false]at hc)<;>(try (obtain⟨_,_,hc⟩:=hc))<;>(try (obtain⟨_,_,hc⟩:=hc))<;>(try (obtain⟨_,_,hc⟩:=hc))<;>(repeat' split at hc)<;>(try simp only[Qd,Qc,Qf,reduceCtorEq,and_false,exists_false]at hc)<;>cases hc
theorem wJ{s:bX}(hc:I4 P hs o=some s):Fv o:=by
 intro c e;unfold I4 at hc;rw[e]at hc;cases hc
theorem Tw(hΓ:nW P Γ){s:bX}(hc:I4 P hs o=some s)(h:Rel E S a w L)(hn:nid<S.N)(he:exec Γ nid S s=some (x,wr))(hd:∀t,o.dst=some t->E.can t){K:Act->World->Prop}{Q:Exit->Act->World->Prop}
  (hK:∀a' w' L',Rel E (S.cZ o.dst x wr) a' w' L'->K a' w'):o.wpIn (WF E.rd) 0 P a w K Q:=by
 have hnd:Fv o:=wJ hc;unfold I4 at hc;split at hc
 case h_1 y hop=>
  simp only[Qd,Qc,Qf]at hc;obtain⟨y',hy,rfl⟩:=hc;simp only[exec]at he;obtain⟨rfl,rfl⟩:=bW he;exact(YG h (.inl hop) hy).wp hnd hd hK
 case h_2 y hop=>
  simp only[Qd,Qc,Qf]at hc;obtain⟨y',hy,rfl⟩:=hc;simp only[exec]at he;obtain⟨rfl,rfl⟩:=bW he;exact(YG h (.inr hop) hy).wp hnd hd hK
 case h_3 c y z hop=>
  simp only[Qd,Qc,Qf]at hc;obtain⟨c',hc',y',hy,z',hz,rfl⟩:=hc;exact(ab9 h hop hc' hy hz he).wp hnd hd hK
 case h_4 t y hop=>
  simp only[Qd,Qc,Qf]at hc;obtain⟨y',hy,rfl⟩:=hc;split at he
  ·split at he
   ·exact(acf h hop hy he).wp hnd hd hK
   ·exact(YJ h hn hop hy he).wp hnd hd hK
  ·exact(YJ h hn hop hy he).wp hnd hd hK
 case h_5 t hop=>
  simp only[Qd,Qc,Qf]at hc;obtain⟨z,hz,rfl⟩:=hc;exact(aac h hn hop hz he).wp hnd hd hK
 case h_6 t y hop=>
  simp only[Qd,Qc,Qf]at hc;obtain⟨n,hn',y',hy,rfl⟩:=hc;exact(aca h hop hn' hy he).wp hnd hd hK
 case h_7 t y z hop=>
  simp only[Qd,Qc,Qf]at hc;obtain⟨i,hi,y',hy,z',hz,rfl⟩:=hc;exact(Z8 h hop hi hy hz he).wp hnd hd hK
 case h_8 t parts hop=>
  split at hc
  ·rename_i fields hu;simp only[Qd,Qc,Qf]at hc;obtain⟨z,hz,places,hp,ps,hps,rfl⟩:=hc;exact(RT h hop hz (.inl ⟨fields,places,hu,hp,hps⟩) he).wp hnd hd hK
  ·rename_i n e hu;simp only[Qd,Qc,Qf]at hc;obtain⟨z,hz,i,hi,ps,hps,rfl⟩:=hc;exact(RT h hop hz (.inr ⟨n,e,i,hu,hi,hps⟩) he).wp hnd hd hK
  ·cases hc
 case h_9 t len parts hop=>
  split at hc
  ·rename_i e hu;simp only[Qd,Qc]at hc;obtain⟨i,hi,z,hz,ps,hps,hc⟩:=hc;split at hc
   ·rename_i hb;injection hc with hc
    subst hc;exact(adO h hn hop hu hi hz hps hb.1 hb.2.1 hb.2.2 he).wp hnd hd hK
   ·cases hc
  ·cases hc
 case h_10 s0 y f hop=>
  split at hc
  ·rename_i fields hu;simp only[Qd,Qc]at hc;obtain⟨fd,hf,i,hi,hc⟩:=hc;split at hc
   ·cases hc
   ·rename_i h0;simp only[Qc,Qf]at hc;obtain⟨y',hy,rfl⟩:=hc;exact(aab h hop hu hf hi h0 hy he).wp hnd hd hK
  ·cases hc
 case h_11 t y z hop=>
  split at hc
  ·rename_i e hu;simp only[Qd,Qc,Qf]at hc;obtain⟨i,hi,y',hy,z',hz,rfl⟩:=hc;exact(aaa h hop hu hi hy hz he).wp hnd hd hK
  ·rename_i n e hu;simp only[Qd,Qc,Qf]at hc;obtain⟨i,hi,y',hy,z',hz,rfl⟩:=hc;exact(aad h hop hu hi hy hz he).wp hnd hd hK
  ·cases hc
 case h_12 op t y z t2 hop=>
  split at hc
  ·rename_i fs hu;split at hc
   ·rename_i f g hfs;split at hc
    ·rename_i k0 hf hg;split at hc
     ·rename_i hb;obtain⟨b1,b2,b3,b4,b5,b6⟩:=hb;split at hc
      ·simp only[Qd,Qc,Qf]at hc;obtain⟨y',hy,z',hz,rfl⟩:=hc;exact(YI (neg:=false) h (by simpa using hop) hu hfs hf hg b1 b2 b3 b4 b5 b6 hy hz he).wp hnd hd hK
      ·simp only[Qd,Qc,Qf]at hc;obtain⟨y',hy,z',hz,rfl⟩:=hc;exact(YI (neg:=true) h (by simpa using hop) hu hfs hf hg b1 b2 b3 b4 b5 b6 hy hz he).wp hnd hd hK
      ·cases hc
     ·cases hc
    ·split at hc
     ·rename_i ks hks;split at hc
      ·rename_i hgu;split at hc
       ·simp only[Qd,Qc,Qf]at hc;obtain⟨y',hy,z',hz,rfl⟩:=hc;exact(Mq (neg:=false) h (by simpa using hop) hu hks hgu hy hz he).wp hnd hd hK
       ·simp only[Qd,Qc,Qf]at hc;obtain⟨y',hy,z',hz,rfl⟩:=hc;exact(Mq (neg:=true) h (by simpa using hop) hu hks hgu hy hz he).wp hnd hd hK
       ·cases hc
      ·cases hc
     ·cases hc
   ·split at hc
    ·rename_i ks hks;split at hc
     ·rename_i hgu;split at hc
      ·simp only[Qd,Qc,Qf]at hc;obtain⟨y',hy,z',hz,rfl⟩:=hc;exact(Mq (neg:=false) h (by simpa using hop) hu hks hgu hy hz he).wp hnd hd hK
      ·simp only[Qd,Qc,Qf]at hc;obtain⟨y',hy,z',hz,rfl⟩:=hc;exact(Mq (neg:=true) h (by simpa using hop) hu hks hgu hy hz he).wp hnd hd hK
      ·cases hc
     ·cases hc
    ·cases hc
  ·rename_i e hu;split at hc
   ·split at hc
    ·simp only[Qd,Qc,Qf]at hc;obtain⟨y',hy,rfl⟩:=hc;exact(RR (neg:=false) h (by simpa using hop) hu hy he).wp hnd hd hK
    ·simp only[Qd,Qc,Qf]at hc;obtain⟨y',hy,rfl⟩:=hc;exact(RR (neg:=true) h (by simpa using hop) hu hy he).wp hnd hd hK
    ·cases hc
   ·cases hc
  ·rename_i hu;split at hc
   ·simp only[Qd,Qc,Qf]at hc;obtain⟨y',hy,z',hz,rfl⟩:=hc;exact(YH (neg:=false) h (by simpa using hop) hu hy hz he).wp hnd hd hK
   ·simp only[Qd,Qc,Qf]at hc;obtain⟨y',hy,z',hz,rfl⟩:=hc;exact(YH (neg:=true) h (by simpa using hop) hu hy hz he).wp hnd hd hK
   ·cases hc
  ·rename_i hu;split at hc
   ·simp only[Qd,Qc,Qf]at hc;obtain⟨y',hy,z',hz,rfl⟩:=hc;exact(ab8 h hop hy hz he).wp hnd hd hK
   ·simp only[Qd,Qc,Qf]at hc;obtain⟨y',hy,z',hz,rfl⟩:=hc;exact(YK h hop hy hz he).wp hnd hd hK
  ·rename_i ms hu;split at hc
   ·split at hc
    ·simp only[Qd,Qc,Qf]at hc;obtain⟨y',hy,rfl⟩:=hc;exact(VR (neg:=false) h (by simpa using hop) hu hy he).wp hnd hd hK
    ·simp only[Qd,Qc,Qf]at hc;obtain⟨y',hy,rfl⟩:=hc;exact(VR (neg:=true) h (by simpa using hop) hu hy he).wp hnd hd hK
    ·cases hc
   ·cases hc
  ·simp only[Qd,Qc,Qf]at hc;obtain⟨y',hy,z',hz,rfl⟩:=hc;exact(YK h hop hy hz he).wp hnd hd hK
 case h_13 t y hop=>
  simp only[Qd,Qc,Qf]at hc;obtain⟨y',hy,rfl⟩:=hc;exact(adF h hop hy he).wp hnd hd hK
 case h_14 src dst y hop=>
  split at hc
  ·rename_i k0 k hs ht;simp only[Qd,Qc,Qf]at hc;obtain⟨y',hy,rfl⟩:=hc;exact(ace h hop hs ht hy he).wp hnd hd hK
  ·rename_i e hs ht;split at hc
   ·rename_i hb;simp only[Qd,Qc,Qf]at hc;obtain⟨y',hy,rfl⟩:=hc;exact(adP h hop hs hb ht hy he).wp hnd hd hK
   ·cases hc
  ·cases hc
 case h_15 t y z hop=>
  split at hc
  ·rename_i hu;simp only[Qd,Qc,Qf]at hc;obtain⟨y',hy,z',hz,rfl⟩:=hc;exact(ab7 h hop hu hy hz he).wp hnd hd hK
  ·rename_i len e hu;simp only[Qd,Qc,Qf]at hc;obtain⟨n,hn,i,hi,y',hy,z',hz,rfl⟩:=hc;exact(acg h hop hu hn hi hy hz he).wp hnd hd hK
  ·cases hc
 case h_16 t y z ok hop=>
  cases hc
 case h_17 y hop=>
  simp only[Qd,Qc,Qf]at hc;obtain⟨y',hy,rfl⟩:=hc;exact(Z9 h hop hy he).wp hnd hd hK
 case h_18 y i hop=>
  simp only[Qd,Qc,Qf]at hc;obtain⟨y',hy,rfl⟩:=hc;exact(acd h hop hy he).wp hnd hd hK
 case h_19 f first caps hop=>
  split at hc
  ·rename_i h0;simp only[Qd,Qc,Qf]at hc;obtain⟨cs,hcs,rfl⟩:=hc;exact(adJ h hop h0 hcs he).wp hnd hd hK
  ·split at hc
   ·rename_i h0;simp only[Qd,Qc,Qf]at hc;obtain⟨cs,hcs,rfl⟩:=hc;exact(adK h hop h0 hcs he).wp hnd hd hK
   ·cases hc
 case h_20 t l c hop=>
  split at hc
  ·rename_i e hu;simp only[Qd,Qc]at hc;obtain⟨i,hi,hc⟩:=hc;split at hc
   ·rename_i h0;simp only[Qc,Qf]at hc;obtain⟨z,hz,l',hl,c',hc',rfl⟩:=hc;exact(adH h hn hop hu hi h0 hz hl hc' he).wp hnd hd hK
   ·cases hc
  ·cases hc
 case h_21 t y lo hi hop=>
  split at hc
  ·rename_i e hu;simp only[Qd,Qc,Qf]at hc;obtain⟨i,hi0,y',hy,lo',hlo,hi',hhi,rfl⟩:=hc;exact(adE h hop hu hi0 hy hlo hhi he).wp hnd hd hK
  ·rename_i hu;split at hc
   ·cases hc
   ·simp only[Qd,Qc,Qf]at hc;obtain⟨y',hy,l',hl,rfl⟩:=hc;exact(Om h hop hu hy (.inl ⟨_,_,rfl,rfl,hl,rfl⟩) he).wp hnd hd hK
   ·simp only[Qd,Qc,Qf]at hc;obtain⟨y',hy,l',hl,rfl⟩:=hc;exact(Om h hop hu hy (.inr (.inl ⟨_,_,rfl,rfl,hl,rfl⟩)) he).wp hnd hd hK
   ·simp only[Qd,Qc,Qf]at hc;obtain⟨y',hy,l',hl,m',hm,rfl⟩:=hc;exact(Om h hop hu hy (.inr (.inr ⟨_,_,_,_,rfl,rfl,hl,hm,rfl⟩)) he).wp hnd hd hK
  ·cases hc
 case h_22 fop args ats hop=>
  simp only[Qd,Qc]at hc;obtain⟨xs,hxs,hc⟩:=hc;have hr:=h.cQ hxs;have ha:args.map a.eval=(args.toList.map a.eval).toArray:=by rw[<-Array.toList_map,Array.toArray_toList]
  split at hc
  ·rename_i f;injection hc with hc
   subst hc;simp only[exec]at he;obtain⟨hen,hcall⟩:=Ke hΓ h hn hr he;exact Kd (by simp[execOp,hop,resolve,Act.eval,Deferred.ofValue,invoke,ha,uc hen]) hcall hnd hd hK
  ·simp only[Qc,Qf]at hc;obtain⟨fv,hfv,rfl⟩:=hc;have rf:=h.eM hfv;simp only[exec]at he;split at he
   ·rename_i f caps ef;rw[ef]at rf;obtain⟨vs,hv,hrc⟩:=rf.yh;obtain⟨hen,hcall⟩:=Ke hΓ h hn (hr.append hrc) he;refine Kd ?_ hcall hnd hd hK;simp only[execOp,hop,resolve,hv,Deferred.ofValue,Sem.run_bind,Sem.run_pure,Result.andThen_ok,invoke,ha];simp[uc hen]
   ·rename_i f caps ef;rw[ef]at rf;obtain⟨vs,hv,hrc⟩:=rf.Kg;obtain⟨hen,hcall⟩:=Ke hΓ h hn (hrc.append hr) he;refine Kd ?_ hcall hnd hd hK;simp only[execOp,hop,resolve,hv,Deferred.ofValue,Sem.run_bind,Sem.run_pure,Result.andThen_ok,invoke,ha];simp[uc hen]
   ·cases he
 case h_23 b args ats hop=>
  split at hc
  ·rename_i y t hargs hats;have ha:args=#[y]:=by rw[<-Array.toArray_toList (xs:=args),hargs]
   have hb:ats=#[t]:=by rw[<-Array.toArray_toList (xs:=ats),hats]
   subst ha hb;split at hc
   ·rename_i hu;simp only[Qd,Qc,Qf]at hc;obtain⟨y',hy,rfl⟩:=hc;exact(acb h hop hu hy he).wp hnd hd hK
   ·rename_i e hu;simp only[Qd,Qc,Qf]at hc;obtain⟨y',hy,rfl⟩:=hc;exact(adL h hop hu hy he).wp hnd hd hK
   ·cases hc
  ·rename_i y z t t' hargs hats;have ha:args=#[y,z]:=by rw[<-Array.toArray_toList (xs:=args),hargs]
   have hb:ats=#[t,t']:=by rw[<-Array.toArray_toList (xs:=ats),hats]
   subst ha hb;split at hc
   ·rename_i e hu;simp only[Qd,Qc]at hc;obtain⟨i,hi,zv,hzv,hc⟩:=hc;split at hc
    ·rename_i hb;obtain⟨rfl,b2,b3⟩:=hb;simp only[Qc,Qf]at hc;obtain⟨y',hy,z',hz,rfl⟩:=hc
     cases hf:Yq hs o with
     |false=>
      rw[hf]at he;exact(YL h hn hop hu hi hzv b2 b3 hy hz he).wp hnd hd hK
     |true=>
      rw[hf]at he;obtain⟨id,ar,es,g1,rfl,rfl,g2⟩:=Yb he;exact((YL h hn hop hu hi hzv b2 b3 hy hz g1).zX g2).wp hnd hd hK
    ·cases hc
   ·cases hc
  ·rename_i y t hargs hats;have ha:args=#[y]:=by rw[<-Array.toArray_toList (xs:=args),hargs]
   have hb:ats=#[t]:=by rw[<-Array.toArray_toList (xs:=ats),hats]
   subst ha hb;cases hc
  ·rename_i y z t t' hargs hats;have ha:args=#[y,z]:=by rw[<-Array.toArray_toList (xs:=args),hargs]
   have hb:ats=#[t,t']:=by rw[<-Array.toArray_toList (xs:=ats),hats]
   subst ha hb;split at hc
   ·rename_i e hu;simp only[Qd,Qc]at hc;obtain⟨i,hi,hc⟩:=hc;split at hc
    ·rename_i hb;obtain⟨rfl,_⟩:=hb;simp only[Qc,Qf]at hc;obtain⟨y',hy,z',hz,rfl⟩:=hc;exact(adN h hop hu hi hy hz he).wp hnd hd hK
    ·cases hc
   ·cases hc
  ·rename_i y z hargs;have ha:args=#[y,z]:=by rw[<-Array.toArray_toList (xs:=args),hargs]
   subst ha;simp only[Qd,Qc,Qf]at hc;obtain⟨y',hy,z',hz,rfl⟩:=hc;exact(On (mx:=false) h (by simpa using hop) hy hz he).wp hnd hd hK
  ·rename_i y z hargs;have ha:args=#[y,z]:=by rw[<-Array.toArray_toList (xs:=args),hargs]
   subst ha;simp only[Qd,Qc,Qf]at hc;obtain⟨y',hy,z',hz,rfl⟩:=hc;exact(On (mx:=true) h (by simpa using hop) hy hz he).wp hnd hd hK
  ·cases hc
 case h_24 t y i hop=>
  split at hc
  ·rename_i fs hu;split at hc
   ·rename_i f hf;simp only[Qd,Qc,Qf]at hc;obtain⟨n,hn,y',hy,rfl⟩:=hc;exact(adM h hop hu hf hn hy he).wp hnd hd hK
   ·cases hc
  ·cases hc
 case h_25 t y hop=>
  split at hc
  ·rename_i ht;simp only[Qd,Qc,Qf]at hc;obtain⟨y',hy,rfl⟩:=hc;exact(adI h hop ht hy he).wp hnd hd hK
  ·cases hc
 case h_26 y t0 t hop=>
  split at hc
  ·cases hc
  ·rename_i u i hni hu hi;simp only[Qd,Qc,Qf]at hc;obtain⟨zv,hz,zp,hzp,y',hy,rfl⟩:=hc;exact(adD h hop hu (fun ms e=>by subst e;exact hni _ rfl) hi hz hzp hy he).wp hnd hd hK
  ·cases hc
 case h_27 t y hop=>
  simp only[Qd,Qc,Qf]at hc;obtain⟨y',hy,rfl⟩:=hc;exact(adG h hop hy he).wp hnd hd hK
 case h_28=>cases hc
end
end
section
open Go.RowKit
def ze(P:Program)(hs:List Nat)(ops:Array Oper)(o:Oper):Option SG:=
 match I4 P hs o with
 |none=>none
 |some s=>
  match o.guard with
  |none=>some ⟨o.dst,none,s⟩
  |some (j,want)=>
   match ops[j]? with
   |none=>none
   |some oj=>
    match oj.dst with
    |none=>none
    |some t=>some ⟨o.dst,some (t,want),s⟩
section
variable {P : Program} {E : En} {S : St} {a : Act} {w : World} {L : Nat -> Value} {Γ : nk} {hs : List Nat}
theorem Wb{ops:Array Oper}{o:Oper}{g:SG}(h:ze P hs ops o=some g):I4 P hs o=some g.op/\g.d=o.dst/\
  ((o.guard=none/\g.g=none)\/∃j want oj t,o.guard=some (j,want)/\ops[j]?=some oj/\oj.dst=some t/\g.g=some (t,want)):=by
 unfold ze at h;split at h
 ·cases h
 ·rename_i s hs;split at h
  ·rename_i hg;injection h with h
   subst h;exact⟨hs,rfl,.inl ⟨hg,rfl⟩⟩
  ·rename_i j want hg;split at h
   ·cases h
   ·rename_i oj hoj;split at h
    ·cases h
    ·rename_i t ht;injection h with h
     subst h;exact⟨hs,rfl,.inr ⟨j,want,oj,t,hg,hoj,ht,rfl⟩⟩
theorem Kr{ops:Array Oper}{o:Oper}{g:SG}(h:Rel E S a w L)(hc:ze P hs ops o=some g){b:Bool}(hw:g.wanted S=some b):Region.wanted o (yielded ops a.tmps)=b:=by
 obtain⟨_,_,hg⟩:=Wb hc;unfold SG.wanted at hw;rcases hg with⟨h1,h2⟩|⟨j,want,oj,t,h1,h2,h3,h4⟩
 ·rw[h2]at hw;injection hw with hw
  subst hw;simp[Region.wanted,h1]
 ·rw[h4]at hw;simp only at hw;have he:=h.env t;split at hw
  ·rename_i b' eb;rw[eb]at he;have hv:=he.nL;injection hw with hw
   subst hw
   have:a.tmps[t]?=some (.bool b'):=by
    rw[QN]at hv
    cases hq:a.tmps[t]? with
    |none=>rw[hq]at hv;simp[undef]at hv
    |some v=>rw[hq]at hv;simp at hv;rw[hv]
   simp[Region.wanted,h1,yielded,h2,h3,this]
  ·rename_i eb;rw[eb]at he;have hv:=he.UA;injection hw with hw
   subst hw
   have:yielded ops a.tmps j=none:=by
    simp only[yielded,h2,h3,Qa];rw[QN]at hv
    cases hq:a.tmps[t]? with
    |none=>rfl
    |some v=>rw[hq]at hv;simp at hv;rw[hv];rfl
   simp[Region.wanted,h1,this]
  ·cases hw
theorem zC(hΓ:nW P Γ){ops:Array Oper}{o:Oper}{g:SG}(hc:ze P hs ops o=some g)(h:Rel E S a w L){nid:Nat}(hn:nid<S.N)(hd:∀t,o.dst=some t->E.can t){S':St}(hs:CD Γ nid S g=some S'){K:Act->World->Prop}{Q:Exit->Act->World->Prop}
  (hK:∀a' w' L',Rel E S' a' w' L'->K a' w'):if Region.wanted o (yielded ops a.tmps)=true then o.wpIn (WF E.rd) 0 P a w K Q else(∀f,o.about P w a.eval=some f->(WF E.rd).fn f)/\K (a.put o.dst undef) w:=by
 obtain⟨hcop,hgd,_⟩:=Wb hc;unfold CD at hs;split at hs
 ·rename_i hw;rw[Kr h hc hw,Qr rfl];simp only[Qb]at hs;obtain⟨⟨x,wr⟩,he,rfl⟩:=hs;rw[hgd]at hK;exact Tw hΓ hcop h hn he hd hK
 ·rename_i hw;rw[Kr h hc hw,Qs (by simp)]
  injection hs with hs
  subst hs;rw[hgd]at hK;exact⟨fun _ _=>trivial,hK _ _ _ (h.SW hd .undef)⟩
 ·cases hs
inductive SC where
 |skip
 |Dv (ops:List SG)
 |mm (un:List (Nat×Nat)) (ops:List SG)
 |seq (x y:SC)
 |cond (c:bg) (x y:SC)
 |block (id:Nat) (c:SC)
 |loop (c:SC)
 |exit (id:Nat)
 |ret
def Fl:Code->List Nat
 | .region _ ops _=>ops.toList.filterMap (·.dst)
 | .seq x y| .cond _ x y=>Fl x++Fl y
 | .block _ c| .loop c=>Fl c
 | .rangeFunc _ ps x y=>ps.toList++Fl x++Fl y
 |_=>[]
def DI:Code->Bool
 | .seq x y| .cond _ x y=>DI x&&DI y
 | .block _ c| .loop c=>DI c
 | .rangeFunc ..=>false
 |_=>true
def Ai(E:En)(c:Code):Prop:=(∀t∈Fl c,E.kt t=none)/\((E.rd=none/\E.nd=false)\/DI c=true)
theorem Ai.aeF{E:En}{x y:Code}(h:Ai E (.seq x y)):Ai E x:=⟨fun t ht=>h.1 t (List.mem_append_left _ ht),h.2.imp id fun e=>by simp only[DI,Qm]at e;exact e.1⟩
theorem Ai.aeE{E:En}{x y:Code}(h:Ai E (.seq x y)):Ai E y:=⟨fun t ht=>h.1 t (List.mem_append_right _ ht),h.2.imp id fun e=>by simp only[DI,Qm]at e;exact e.2⟩
theorem Ai.YR{E:En}{c:Operand}{x y:Code}(h:Ai E (.cond c x y)):Ai E x:=⟨fun t ht=>h.1 t (List.mem_append_left _ ht),h.2.imp id fun e=>by simp only[DI,Qm]at e;exact e.1⟩
theorem Ai.YQ{E:En}{c:Operand}{x y:Code}(h:Ai E (.cond c x y)):Ai E y:=⟨fun t ht=>h.1 t (List.mem_append_right _ ht),h.2.imp id fun e=>by simp only[DI,Qm]at e;exact e.2⟩
theorem Wf{E:En}{id:Nat}{ops:Array Oper}{d:Bool}{nt:Nat}(hE:E.nt=nt)(hk:Ai E (.region id ops d))(hd:∀o∈ops.toList,∀t,o.dst=some t->t<nt):∀o∈ops.toList,∀t,o.dst=some t->E.can t:=
 fun o ho t ht=>⟨by rw[hE];exact hd o ho t ht,hk.1 t (List.mem_filterMap.2 ⟨o,ho,ht⟩)⟩
def V(P:Program)(nt:Nat)(c:Code)(Q:Exit->St->Prop)(S:St):Prop:=
 ∀(E:En),E.nt=nt->Ai E c->∀(a:Act) (w:World) (L:Nat->Value),Rel E S a w L->c.wpIn (WF E.rd) 0 P (fun e a' w'=>∃S' L',Rel E S' a' w' L'/\Q e S') a w
theorem V.mono{nt:Nat}{c:Code}{Q Q':Exit->St->Prop}(h:V P nt c Q S)(hq:∀e S,Q e S->Q' e S):V P nt c Q' S:=
 fun E hE hk a w L hr=>wpIn_mono (h E hE hk a w L hr) fun _ _ _ ⟨S',L',h1,h2⟩=>⟨S',L',h1,hq _ _ h2⟩
def Ss(K:St->Prop)(Q:Exit->St->Prop):Exit->St->Prop
 | .normal,S=>K S
 | .exit i,S=>Q (.exit i) S
 | .goto l,S=>Q (.goto l) S
 | .ret,S=>Q .ret S
 | .panic c,S=>Q (.panic c) S
 | .outgrown,S=>Q .outgrown S
def Bq(id:Nat)(Q:Exit->St->Prop):Exit->St->Prop
 | .exit i,S=>if i=id then Q .normal S else Q (.exit i) S
 | .normal,S=>Q .normal S
 | .goto l,S=>Q (.goto l) S
 | .ret,S=>Q .ret S
 | .panic c,S=>Q (.panic c) S
 | .outgrown,S=>Q .outgrown S
theorem acD{nt:Nat}{Q:Exit->St->Prop}(h:Q .normal S):V P nt .skip Q S:=fun _ _ _ _ _ L hr=>wpIn_skip ⟨S,L,hr,h⟩
theorem acE{nt id:Nat}{Q:Exit->St->Prop}(h:Q (.exit id) S):V P nt (.exit id) Q S:=fun _ _ _ _ _ L hr=>wpIn_exit ⟨S,L,hr,h⟩
theorem adW{nt:Nat}{Q:Exit->St->Prop}(h:Q .ret S):V P nt .ret Q S:=fun _ _ _ _ _ L hr=>wpIn_ret ⟨S,L,hr,h⟩
theorem adV{nt:Nat}{x y:Code}{Q:Exit->St->Prop}(h:V P nt x (Ss (V P nt y Q) Q) S):V P nt (.seq x y) Q S:=fun E hE hk a w L hr=>
 wpIn_seq (wpIn_mono (h E hE hk.aeF a w L hr) fun e a' w' ⟨S',L',h1,h2⟩=>by
  cases e with
  |normal=>exact h2 E hE hk.aeE a' w' L' h1
  |exit i=>exact⟨S',L',h1,h2⟩
  |goto l=>exact⟨S',L',h1,h2⟩
  |ret=>exact⟨S',L',h1,h2⟩
  |panic c=>exact⟨S',L',h1,h2⟩
  |outgrown=>exact⟨S',L',h1,h2⟩)
theorem acF{nt:Nat}{c:Operand}{c':bg}{x y:Code}{b:Bool}{Q:Exit->St->Prop}(hc:bb c=some c')(hb:c'.val S= .bool b)(h:V P nt (if b then x else y) Q S):V P nt (.cond c x y) Q S:=fun E hE hk a w L hr=>by
 have:=hr.eM hc;rw[hb]at this
 exact wpIn_cond this.nL (h E hE (by
  cases b
  ·exact hk.YQ
  ·exact hk.YR) a w L hr)
theorem aaO{nt id:Nat}{c:Code}{Q:Exit->St->Prop}(h:V P nt c (Bq id Q) S):V P nt (.block id c) Q S:=fun E hE hk a w L hr=>
 wpIn_block (wpIn_mono (h E hE hk a w L hr) fun e a' w' ⟨S',L',h1,h2⟩=>by
  cases e with
  |exit i=>
   simp only[Bq]at h2;simp only[Exit.inBlock];split
   ·rename_i hi;rw[Qr hi]at h2;exact⟨S',L',h1,h2⟩
   ·rename_i hi;rw[Qs hi]at h2;exact⟨S',L',h1,h2⟩
  |normal=>exact⟨S',L',h1,h2⟩
  |goto l=>exact⟨S',L',h1,h2⟩
  |ret=>exact⟨S',L',h1,h2⟩
  |panic c=>exact⟨S',L',h1,h2⟩
  |outgrown=>exact⟨S',L',h1,h2⟩)
theorem mapM_length{α β:Type}{f:α->Option β}:∀{l:List α} {r:List β},l.mapM f=some r->r.length=l.length
 |[],r,h=>by simp at h;subst h;rfl
 |x::l,r,h=>by
  simp only[Qq74,Qd,Qc,Option.pure_def,Qf]at h;obtain⟨y,_,ys,hys,rfl⟩:=h;simp[mapM_length hys]
def PV.jo(n:Nat):PV->Bool
 | .own id _| .ptr id _ _| .ed id _ _ _ _| .view id _ _ _ _=>decide (id<n)
 | .agg _| .cX _| .cz _ _| .iM _ _=>false
 |_=>true
def PV.under(n:Nat):PV->Bool
 | .agg cs| .cX cs| .cz _ cs| .iM _ cs=>cs.all (PV.jo n)
 |x=>x.jo n
def vx.under(n:Nat):vx->Bool
 | .dead=>true
 | .box cs=>cs.all (PV.under n)
 | .row _ _ es=>es.all fun e=>e.all (PV.under n)
theorem aW.jo{M M':Nat->Prop}{G G':Gh}{x:PV}{v:Value}(hx:x.jo G'.N=true)(hM:∀b,M' b->M b)(hL:G'.L=G.L)(hV:∀id,id<G'.N->G'.V id=G.V id)(h:aW w M G x v):aW w M' G' x v:=by
 have hs:dj w w M M':=(dj.of fun _ hm=>fun h'=>hm (hM _ h'))
 cases h with
 |any=>exact .any _
 |undef=>exact .undef
 |int=>exact .int _ _
 |bool=>exact .bool _
 |fB=>first|exact .fB _|simp[PV.closed]at hc
 |str=>exact .str _
 |jj=>exact .jj
 |dx=>exact .dx
 |cz=>simp[PV.jo]at hx
 |iM=>simp[PV.jo]at hx
 |agg=>simp[PV.jo]at hx
 |cX=>simp[PV.jo]at hx
 |ptr id ar off a hN hVe h=>simp only[PV.jo,Qi]at hx;exact .ptr _ _ _ _ hx (by rw[hV id hx];exact hVe) (fun e=>by rw[hL];exact h (by rw[e,hV id hx]))
 |ref cs ad vs hl hcell h=>exact .ref cs ad vs hl (fun i u hu=>⟨(hcell i u hu).1,fun h'=>(hcell i u hu).2 (hM _ h')⟩) (fun i p u hp hu=>(h i p u hp hu).mono hs (Gh.le.refl _))
 |sl es ad c k vs hk hl hcell h hn hm=>exact .sl es ad c k vs hk hl (fun i u hu=>⟨(hcell i u hu).1,fun h'=>(hcell i u hu).2 (hM _ h')⟩) (fun i p u hp hu=>(h i p u hp hu).mono hs (Gh.le.refl _)) hn hm
 |slnil=>exact .slnil
 |own id ar a n c hN hVe h=>simp only[PV.jo,Qi]at hx;exact .own _ _ _ _ _ hx (by rw[hV id hx];exact hVe) (fun e=>by rw[hL];exact h (by rw[e,hV id hx]))
 |ed id ar k i off a hN hVe h=>simp only[PV.jo,Qi]at hx;exact .ed _ _ _ _ _ _ hx (by rw[hV id hx];exact hVe) (fun e=>by rw[hL];exact h (by rw[e,hV id hx]))
 |view id ar k lo n a c hN hVe h=>simp only[PV.jo,Qi]at hx;exact .view _ _ _ _ _ _ _ hx (by rw[hV id hx];exact hVe) (fun e=>by rw[hL];exact h (by rw[e,hV id hx]))
 |sf=>exact .sf
 |si T v=>exact .si T v
 |gA T x v hp h=>exact .gA T x v hp (h.plain hp)
 |iu ks us b es ck hb hMb hk hv h1 h2=>exact .iu ks us b es ck hb (fun h'=>hMb (hM _ h')) hk hv (fun i p e hp he=>(h1 i p e hp he).mono hs (Gh.le.refl _)) (fun i p e hp he=>(h2 i p e hp he).mono hs (Gh.le.refl _))
theorem aW.under{M M':Nat->Prop}{G G':Gh}{x:PV}{v:Value}(hx:x.under G'.N=true)(hM:∀b,M' b->M b)(hL:G'.L=G.L)(hV:∀id,id<G'.N->G'.V id=G.V id)(h:aW w M G x v):aW w M' G' x v:=by
 have go:∀{cs:List PV} {vs:List Value},cs.all (PV.jo G'.N)=true->aR w M G cs vs->aR w M' G' cs vs:=fun hc h=>⟨h.1,fun i y v hy hv=>(h.2 i y v hy hv).jo (QH.1 hc y (Q7 hy)) hM hL hV⟩
 cases x with
 |agg cs=>obtain⟨vs,rfl,hr⟩:=h.oy;have:=go (by simpa[PV.under]using hx) hr;exact .agg _ _ this.1 this.2
 |cX cs=>obtain⟨vs,rfl,hr⟩:=h.AP;have:=go (by simpa[PV.under]using hx) hr;exact .cX _ _ this.1 this.2
 |cz f cs=>obtain⟨vs,rfl,hr⟩:=h.yh;have:=go (by simpa[PV.under]using hx) hr;exact .cz _ _ _ this.1 this.2
 |iM f cs=>obtain⟨vs,rfl,hr⟩:=h.Kg;have:=go (by simpa[PV.under]using hx) hr;exact .iM _ _ _ this.1 this.2
 |_=>exact h.jo (by simpa[PV.under]using hx) hM hL hV
def St.cut(S:St)(ts:List Nat)(n:Nat):St:=
 {env:=fun t=>if t∈ts then S.env t else .any,H:=fun id=>if id<n then S.H id else⟨0,.dead⟩,N:=n}
structure Uc (S:St) (ts:List Nat) (n:Nat):Prop where
 N:n<=S.N
 env:∀t∈ts,(S.env t).under n=true
 H:∀id,id<n->(S.H id).c.under n=true
theorem Rel.cut(h:Rel E S a w L){ts:List Nat}{n:Nat}(hc:Uc S ts n):Rel E (S.cut ts n) a w L:=by
 have hM:∀b,bp E (S.cut ts n) L b->bp E S L b:=by
  rintro b (⟨id,hid,hl,hb⟩|hb)
  ·simp only[St.cut]at hid hl;rw[Qr hid]at hl;exact .inl ⟨id,QJ hid hc.N,hl,hb⟩
  ·exact .inr hb
 have hV:∀id,id<((S.cut ts n).gh L).N->((S.cut ts n).gh L).V id=(S.gh L).V id:=fun id hid=>by
  simp only[St.gh,St.cut]at hid ⊢;rw[Qr hid]
 have go:∀{cs:List PV} {vs:List Value},(∀y∈cs,y.under n=true)->aR w (bp E S L) (S.gh L) cs vs->aR w (bp E (S.cut ts n) L) ((S.cut ts n).gh L) cs vs:=fun hc h=>
  ⟨h.1,fun i y v hy hv=>aW.under (G:=S.gh L) (G':=(S.cut ts n).gh L) (hc y (Q7 hy)) hM rfl hV (h.2 i y v hy hv)⟩
 refine⟨h.defers,h.size,fun t=> ?_,fun id hid=> ?_,fun i j b hi hj hli hlj hbi hbj=> ?_,fun id hid=> ?_,h.fr,fun hb hlv hvr=> ?_⟩
 ·by_cases ht:t∈ts
  ·have e:(S.cut ts n).env t=S.env t:=by simp[St.cut,ht]
   rw[e];exact aW.under (G:=S.gh L) (G':=(S.cut ts n).gh L) (hc.env t ht) hM rfl hV (h.env t)
  ·have e:(S.cut ts n).env t= .any:=by simp[St.cut,ht]
   rw[e];exact .any _
 ·simp only[St.cut]at hid;have hc':((S.cut ts n).H id).c=(S.H id).c:=by simp[St.cut,hid]
  rw[hc'];have ho:=h.obj id (QJ hid hc.N);have hb:=hc.H id hid
  cases hcc:(S.H id).c with
  |dead=>trivial
  |box cs=>
   rw[hcc]at ho hb;obtain⟨b,cur,T,h1,h2,h3,h4⟩:=ho;exact⟨b,cur,T,h1,h2,h3,go (fun y hy=>QH.1 hb y hy) h4⟩
  |row e k es=>
   rw[hcc]at ho hb;obtain⟨vs,h1,h2,h3⟩:=ho;refine⟨vs,h1,h2,go (fun y hy=> ?_) h3⟩
   obtain⟨l,hl,hyl⟩:=List.mem_flatten.1 hy;exact QH.1 (QH.1 hb l hl) y hyl
 ·simp only[St.cut]at hi hj hli hlj;rw[Qr hi]at hli;rw[Qr hj]at hlj;exact h.apart i j b (QJ hi hc.N) (QJ hj hc.N) hli hlj hbi hbj
 ·simp only[St.cut]at hid ⊢;rw[Qs (by omega)]
 ·simp only[St.cut]at hlv hvr
  by_cases hn0:0<n
  ·rw[Qr hn0]at hlv hvr;exact h.AV hb hlv hvr
  ·rw[Qs hn0]at hlv;cases hlv
def adq(ts:List Nat)(n:Nat)(I:Nat->St->Prop)(m:Nat)(Q:Exit->St->Prop):Exit->St->Prop
 | .normal,S=>Uc S ts n/\∃m',m'<m/\I m' (S.cut ts n)
 | .exit i,S=>Q (.exit i) S
 | .goto l,S=>Q (.goto l) S
 | .ret,S=>Q .ret S
 | .panic c,S=>Q (.panic c) S
 | .outgrown,S=>Q .outgrown S
end
end
end Go.TQ
end
