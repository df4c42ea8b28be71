/-
  Texts made small by a program (see NOTES). Conditions: those that each theorem names.
-/
import Derived.Maps.AppendAt
import Derived.Below
import Derived.Orders
import Derived.Tactics
import Derived.Deep.MidRow
import Derived.RangeFuncLeaves
import Derived.Laws.Build
import Derived.WalkKit
import Derived.Lib.Bytes
import Derived.Laws.IdiomStrings
import Derived.Laws.Strings3
import Derived.Laws.Slices
import Derived.Laws.Tables
import Derived.Laws.MakeOwn
import Derived.Laws.Cover3
import Derived.Laws.StructEq
import Derived.Sort.LoopGhostIn
import Derived.OrdersIn
set_option linter.unusedVariables false
set_option linter.defProp false
set_option linter.unusedSimpArgs false
set_option linter.unusedSectionVars false
set_option maxHeartbeats 2000000
namespace Go
def Qa : type_of% @Option.bind_some := @Option.bind_some
def Qb : type_of% @Option.map_eq_some_iff := @Option.map_eq_some_iff
def Qc : type_of% @Option.bind_eq_some_iff := @Option.bind_eq_some_iff
def Qd : type_of% @Option.bind_eq_bind := @Option.bind_eq_bind
def Qe : type_of% @Option.map_some := @Option.map_some
def Qf : type_of% @Option.some.injEq := @Option.some.injEq
def Qg : type_of% @decide_eq_true := @decide_eq_true
def Qh : type_of% @decide_eq_false := @decide_eq_false
def Qi : type_of% @decide_eq_true_eq := @decide_eq_true_eq
def Qj : type_of% @decide_eq_false_iff_not := @decide_eq_false_iff_not
def Qk : type_of% @cond_true := @cond_true
def Ql : type_of% @cond_false := @cond_false
def Qm : type_of% @Bool.and_eq_true := @Bool.and_eq_true
def Qn : type_of% @Bool.or_eq_true := @Bool.or_eq_true
def Qo : type_of% @Bool.not_true := @Bool.not_true
def Qp : type_of% @Bool.not_false := @Bool.not_false
def Qq : type_of% @Bool.false_eq_true := @Bool.false_eq_true
def Qr : type_of% @if_pos := @if_pos
def Qs : type_of% @if_neg := @if_neg
def Qt : type_of% @if_true := @if_true
def Qu : type_of% @if_false := @if_false
def Qv : type_of% @List.getElem?_eq_getElem := @List.getElem?_eq_getElem
def Qw : type_of% @List.getElem?_eq_some_iff := @List.getElem?_eq_some_iff
def Qx : type_of% @List.mem_cons_self := @List.mem_cons_self
def Qy : type_of% @List.mem_cons_of_mem := @List.mem_cons_of_mem
def Qz : type_of% @List.mem_append := @List.mem_append
def QA : type_of% @List.mem_cons := @List.mem_cons
def QB : type_of% @List.length_append := @List.length_append
def QC : type_of% @List.length_map := @List.length_map
def QD : type_of% @List.map_cons := @List.map_cons
def QE : type_of% @List.length_cons := @List.length_cons
def QF : type_of% @Nat.eq_of_beq_eq_true := @Nat.eq_of_beq_eq_true
def QG : type_of% @Nat.le_of_ble_eq_true := @Nat.le_of_ble_eq_true
def QH : type_of% @List.all_eq_true := @List.all_eq_true
def QI : type_of% @Nat.le_refl := @Nat.le_refl
def QJ : type_of% @Nat.lt_of_lt_of_le := @Nat.lt_of_lt_of_le
def QK : type_of% @Nat.le_trans := @Nat.le_trans
def QL : type_of% @List.append_assoc := @List.append_assoc
def QM : type_of% @List.drop_eq_getElem_cons := @List.drop_eq_getElem_cons
def QN : type_of% @Array.getD_eq_getD_getElem? := @Array.getD_eq_getD_getElem?
def QO : type_of% @List.map_nil := @List.map_nil
def QP : type_of% @List.mem_map := @List.mem_map
def QQ : type_of% @List.mem_flatMap := @List.mem_flatMap
def QR : type_of% @List.not_mem_nil := @List.not_mem_nil
def QS : type_of% @Nat.zero_le := @Nat.zero_le
def QT : type_of% @List.getElem?_map := @List.getElem?_map
def QU : type_of% @List.foldl_cons := @List.foldl_cons
def QV : type_of% @Int.toNat_natCast := @Int.toNat_natCast
def QW : type_of% @Bool.eq_iff_iff := @Bool.eq_iff_iff
def QX : type_of% @Bool.not_eq_true := @Bool.not_eq_true
def QY : type_of% @List.length_set := @List.length_set
def QZ : type_of% @List.length_nil := @List.length_nil
def Q0 : type_of% @List.getElem_mem := @List.getElem_mem
def Q1 : type_of% @List.mem_of_mem_take := @List.mem_of_mem_take
def Q2 : type_of% @List.mem_of_mem_drop := @List.mem_of_mem_drop
def Q3 : type_of% @Option.getD_some := @Option.getD_some
def Q4 : type_of% @List.pairwise_cons := @List.pairwise_cons
def Q5 : type_of% @List.mem_singleton := @List.mem_singleton
def Q6 : type_of% @List.length_singleton := @List.length_singleton
def Q7 : type_of% @List.take_succ_eq_append_getElem := @List.take_succ_eq_append_getElem
def Q8 : type_of% @List.mem_of_getElem? := @List.mem_of_getElem?
def Q9 : type_of% @Array.getElem?_eq_some_iff := @Array.getElem?_eq_some_iff
def Qq62 : type_of% @List.take_length := @List.take_length
def Qq63 : type_of% @Nat.mul_le_mul_right := @Nat.mul_le_mul_right
def Qq64 : type_of% @Int.lt_irrefl := @Int.lt_irrefl
def Qq65 : type_of% @Option.map_none := @Option.map_none
def Qq66 : type_of% @List.drop_length := @List.drop_length
def Qq67 : type_of% @List.eq_nil_of_length_eq_zero := @List.eq_nil_of_length_eq_zero
def Qq68 : type_of% @List.getElem?_take := @List.getElem?_take
def Qq69 : type_of% @List.pairwise_append := @List.pairwise_append
def Qq70 : type_of% @List.all_cons := @List.all_cons
def Qq71 : type_of% @List.map_congr_left := @List.map_congr_left
def Qq72 : type_of% @List.getElem?_eq_none := @List.getElem?_eq_none
def Qq73 : type_of% @Nat.add_mul := @Nat.add_mul
def Qq74 : type_of% @Bool.or_eq_false_iff := @Bool.or_eq_false_iff
def Qq75 : type_of% @List.mapM_cons := @List.mapM_cons
end Go
open Int (toNat)
open Sum (inl inr)
open List (replicate)
noncomputable section
namespace Go.TQ
section
inductive PV where
 |any
 |undef
 |int (k:IntKind) (n:Int)
 |bool (b:Bool)
 |gL
 |str (s:ByteArray)
 |lL
 |eG
 |bI (f:FuncId) (caps:List PV)
 |jz (f:FuncId) (first:List PV)
 |agg (cs:List PV)
 |eN (cs:List PV)
 |ptr (id av off:Nat)
 |ref (cs:List PV)
 |sl (es:List (List PV))
 |own (id av:Nat)
 |fh (id av k i off:Nat)
 |view (id av k lo n:Nat)
 |jQ (ks vs:List PV)
def PV.plain:PV->Bool
 | .int ..| .bool _| .gL| .str _| .lL| .eG| .any| .undef=>true
 |_=>false
structure Gh where
 N:Nat
 L:Nat->Value
 V:Nat->Nat
def ed:Gh:=⟨0,λ_=> .bool false,λ_=>0⟩
def cd:Value->Option Nat
 | .pointer (some a)| .slice (some a) _ _=>some a.block
 |_=>none
def Xp(l:Value)(k lo n:Nat)(a:Option Addr)(c:Nat):Prop:=
 ∃a0 m c0,l= .slice a0 m c0/\lo+n<=m/\m<=c0/\c=c0 - lo/\((n=0/\lo≠0/\(a=none->a0=none))\/a=a0.map (·.add (lo*k)))
inductive bp (w:World) (M:Nat->Prop):Gh->PV->Value->Prop where
 |any {G:Gh} (v:Value):bp w M G .any v
 |undef {G:Gh}:bp w M G .undef Go.undef
 |int {G:Gh} (k:IntKind) (n:Int):bp w M G (.int k n) (.int k n)
 |bool {G:Gh} (b:Bool):bp w M G (.bool b) (.bool b)
 |gL {G:Gh} (b:Bool):bp w M G .gL (.bool b)
 |str {G:Gh} (s:ByteArray):bp w M G (.str s) (.string s)
 |lL {G:Gh}:bp w M G .lL (.pointer none)
 |eG {G:Gh}:bp w M G .eG (.slice none 0 0)
 |bI {G:Gh} (f:FuncId) (caps:List PV) (vs:List Value) (hl:vs.length=caps.length) (h:∀(i:Nat) (x:PV) (v:Value),caps[i]?=some x->vs[i]?=some v->bp w M G x v):bp w M G (.bI f caps) (.func (.func f) #[] vs.toArray)
 |jz {G:Gh} (f:FuncId) (cs:List PV) (vs:List Value) (hl:vs.length=cs.length) (h:∀(i:Nat) (x:PV) (v:Value),cs[i]?=some x->vs[i]?=some v->bp w M G x v):bp w M G (.jz f cs) (.func (.func f) vs.toArray #[])
 |agg {G:Gh} (cs:List PV) (vs:List Value) (hl:vs.length=cs.length) (h:∀(i:Nat) (x:PV) (v:Value),cs[i]?=some x->vs[i]?=some v->bp w M G x v):bp w M G (.agg cs) (.agg vs.toArray)
 |eN {G:Gh} (cs:List PV) (vs:List Value) (hl:vs.length=cs.length) (h:∀(i:Nat) (x:PV) (v:Value),cs[i]?=some x->vs[i]?=some v->bp w M G x v):bp w M G (.eN cs) (.tuple vs.toArray)
 |ptr {G:Gh} (id av off:Nat) (a:Option Addr) (hN:id<G.N) (hV:av<=G.V id) (h:av=G.V id->a=(cd (G.L id)).map λb=>⟨b,off,none⟩):bp w M G (.ptr id av off) (.pointer a)
 |ref {G:Gh} (cs:List PV) (a:Addr) (vs:List Value) (hl:vs.length=cs.length) (hc:∀(i:Nat) (v:Value),vs[i]?=some v->w.cell? (a.add i)=some v/\¬M a.block)
   (h:∀(i:Nat) (x:PV) (v:Value),cs[i]?=some x->vs[i]?=some v->bp w M ed x v):bp w M G (.ref cs) (.pointer (some a))
 |sl {G:Gh} (es:List (List PV)) (a:Addr) (c k:Nat) (vs:List Value) (hk:∀e∈es,e.length=k) (hl:vs.length=es.flatten.length) (hc:∀(i:Nat) (v:Value),vs[i]?=some v->w.cell? (a.add i)=some v/\¬M a.block)
   (h:∀(i:Nat) (x:PV) (v:Value),es.flatten[i]?=some x->vs[i]?=some v->bp w M ed x v) (hn:es.length<=c) (hm:c<=maxLen):bp w M G (.sl es) (.slice (some a) es.length c)
 |slnil {G:Gh}:bp w M G (.sl []) (.slice none 0 0)
 |own {G:Gh} (id av:Nat) (a:Option Addr) (n c:Nat) (hN:id<G.N) (hV:av<=G.V id) (h:av=G.V id-> .slice a n c=G.L id):bp w M G (.own id av) (.slice a n c)
 |fh {G:Gh} (id av k i off:Nat) (a:Option Addr) (hN:id<G.N) (hV:av<=G.V id) (h:av=G.V id->a=(cd (G.L id)).map λb=>⟨b,i*k+off,none⟩):bp w M G (.fh id av k i off) (.pointer a)
 |view {G:Gh} (id av k lo n:Nat) (a:Option Addr) (c:Nat) (hN:id<G.N) (hV:av<=G.V id) (h:av=G.V id->Xp (G.L id) k lo n a c):bp w M G (.view id av k lo n) (.slice a n c)
 |jQ {G:Gh} (ks vs:List PV) (b:Nat) (es:Array MapEntry) (ck:Nat) (hb:w.heap[b]?=some (.map es ck)) (hM:¬M b) (hk:es.size=ks.length) (hv:es.size=vs.length)
   (h1:∀(i:Nat) (x:PV) (e:MapEntry),ks[i]?=some x->es[i]?=some e->bp w M ed x e.key) (h2:∀(i:Nat) (x:PV) (e:MapEntry),vs[i]?=some x->es[i]?=some e->bp w M ed x e.val):bp w M G (.jQ ks vs) (.map (some b))
def bo(w:World)(M:Nat->Prop)(G:Gh)(cs:List PV)(vs:List Value):Prop:=
 vs.length=cs.length/\∀(i:Nat) (x:PV) (v:Value),cs[i]?=some x->vs[i]?=some v->bp w M G x v
structure Gh.le (G G':Gh):Prop where
 N:G.N<=G'.N
 at_:∀id,id<G.N->(G.V id=G'.V id/\G.L id=G'.L id)\/G.V id<G'.V id
def Gh.le.refl(G:Gh):G.le G:=⟨QI _,λ_ _=> .inl ⟨rfl,rfl⟩⟩
structure cZ (w w':World) (M M':Nat->Prop):Prop where
 c:∀(a:Addr) (v:Value),w.cell? a=some v->¬M a.block->w'.cell? a=some v/\¬M' a.block
 m:∀(b:Nat) (es:Array MapEntry) (ck:Nat),w.heap[b]?=some (.map es ck)->¬M b->w'.heap[b]?=some (.map es ck)/\¬M' b
def cZ.of{w:World}{M M':Nat->Prop}(h:∀b,¬M b->¬M' b):cZ w w M M':=⟨λ_ _ hp hm=>⟨hp,h _ hm⟩,λ_ _ _ hb hm=>⟨hb,h _ hm⟩⟩
def cZ.trans{a b c:World}{M M' M'':Nat->Prop}(h:cZ a b M M')(k:cZ b c M' M''):cZ a c M M'':=
 ⟨λp v hp hm=>let⟨h1,h2⟩:=h.c p v hp hm;k.c p v h1 h2,λp es ck hp hm=>let⟨h1,h2⟩:=h.m p es ck hp hm;k.m p es ck h1 h2⟩
def bp.ajr{w w':World}{M M':Nat->Prop}{G:Gh}(hs:cZ w w' M M'){x:PV}{v:Value}(h:bp w M G x v):∀G',G.le G'->bp w' M' G' x v:=by
 induction h with
 |any v=>exact λ_ _=> .any v
 |undef=>exact λ_ _=> .undef
 |int k n=>exact λ_ _=> .int k n
 |bool b=>exact λ_ _=> .bool b
 |gL b=>exact λ_ _=> .gL b
 |str s=>exact λ_ _=> .str s
 |lL=>exact λ_ _=> .lL
 |eG=>exact λ_ _=> .eG
 |bI f caps vs hl _ ih=>exact λG' hg=> .bI f caps vs hl λi x v hx hv=>ih i x v hx hv G' hg
 |jz f cs vs hl _ ih=>exact λG' hg=> .jz f cs vs hl λi x v hx hv=>ih i x v hx hv G' hg
 |agg cs vs hl _ ih=>exact λG' hg=> .agg cs vs hl λi x v hx hv=>ih i x v hx hv G' hg
 |eN cs vs hl _ ih=>exact λG' hg=> .eN cs vs hl λi x v hx hv=>ih i x v hx hv G' hg
 |ptr id av off a hN hV h=>
  intro G' hg;refine .ptr id av off a (QJ hN hg.N) ?_ ?_
  ·rcases hg.at_ id hN with⟨e,_⟩|e<;>omega
  ·intro e;rcases hg.at_ id hN with⟨e1,e2⟩|e1
   ·rw[<-e2];exact h (by omega)
   ·omega
 |ref cs a vs hl hc _ ih=>
  intro G' _
  exact .ref cs a vs hl (λi v hv=>by
   obtain⟨h1,h2⟩:=hc i v hv;have hb:(a.add i).block=a.block:=by unfold Addr.add;split<;>rfl
   have:=hs.c _ _ h1 (by rw[hb];exact h2)
   rw[hb]at this
   exact this) λi x v hx hv=>ih i x v hx hv ed (Gh.le.refl _)
 |sl es a c k vs hk hl hc _ hn hm ih=>
  intro G' _
  exact .sl es a c k vs hk hl (λi v hv=>by
   obtain⟨h1,h2⟩:=hc i v hv;have hb:(a.add i).block=a.block:=by unfold Addr.add;split<;>rfl
   have:=hs.c _ _ h1 (by rw[hb];exact h2)
   rw[hb]at this
   exact this) (λi x v hx hv=>ih i x v hx hv ed (Gh.le.refl _)) hn hm
 |slnil=>exact λ_ _=> .slnil
 |own id av a n c hN hV h=>
  intro G' hg;refine .own id av a n c (QJ hN hg.N) ?_ ?_
  ·rcases hg.at_ id hN with⟨e,_⟩|e<;>omega
  ·intro e;rcases hg.at_ id hN with⟨e1,e2⟩|e1
   ·rw[<-e2];exact h (by omega)
   ·omega
 |fh id av k i off a hN hV h=>
  intro G' hg;refine .fh id av k i off a (QJ hN hg.N) ?_ ?_
  ·rcases hg.at_ id hN with⟨e,_⟩|e<;>omega
  ·intro e;rcases hg.at_ id hN with⟨e1,e2⟩|e1
   ·rw[<-e2];exact h (by omega)
   ·omega
 |view id av k lo n a c hN hV h=>
  intro G' hg;refine .view id av k lo n a c (QJ hN hg.N) ?_ ?_
  ·rcases hg.at_ id hN with⟨e,_⟩|e<;>omega
  ·intro e;rcases hg.at_ id hN with⟨e1,e2⟩|e1
   ·rw[<-e2];exact h (by omega)
   ·omega
 |jQ ks vs b es ck hb hM hk hv _ _ ih1 ih2=>intro G' _;exact .jQ ks vs b es ck (hs.m _ _ _ hb hM).1 (hs.m _ _ _ hb hM).2 hk hv (λi x e hx he=>ih1 i x e hx he ed (Gh.le.refl _)) λi x e hx he=>ih2 i x e hx he ed (Gh.le.refl _)
def bp.mono{w w':World}{M M':Nat->Prop}{G G':Gh}(hs:cZ w w' M M')(hg:G.le G'){x:PV}{v:Value}(h:bp w M G x v):bp w' M' G' x v:=h.ajr hs G' hg
def ed.le(G:Gh):ed.le G:=⟨QS _,λ_ h=>absurd h (Nat.not_lt_zero _)⟩
def bo.mono{w w':World}{M M':Nat->Prop}{G G':Gh}(hs:cZ w w' M M')(hg:G.le G'){cs:List PV}{vs:List Value}(h:bo w M G cs vs):bo w' M' G' cs vs:=
 ⟨h.1,λi x v hx hv=>(h.2 i x v hx hv).mono hs hg⟩
section
variable {w : World} {M : Nat -> Prop} {G : Gh}
def bo.nil:bo w M G [] []:=⟨rfl,λi x v h _=>by simp at h⟩
def bo.cons{x:PV}{v:Value}{cs:List PV}{vs:List Value}(h:bp w M G x v)(t:bo w M G cs vs):bo w M G (x::cs) (v::vs):=by
 refine⟨by simp[t.1],λi y u hy hu=> ?_⟩
 cases i with
 |zero=>simp at hy hu;subst hy hu;exact h
 |succ i=>simp at hy hu;exact t.2 i y u hy hu
def bo.cons_inv{x:PV}{cs:List PV}{vs:List Value}(h:bo w M G (x::cs) vs):∃v vs',vs=v::vs'/\bp w M G x v/\bo w M G cs vs':=by
 obtain⟨hl,h⟩:=h
 cases vs with
 |nil=>simp at hl
 |cons v vs=>exact⟨v,vs,rfl,h 0 x v (by simp) (by simp),by simpa using hl,λi y u hy hu=>h (i+1) y u (by simpa using hy) (by simpa using hu)⟩
def bo.te{vs:List Value}(h:bo w M G [] vs):vs=[]:=Qq67 h.1
def bo.append{cs ds:List PV}{vs us:List Value}(h:bo w M G cs vs)(k:bo w M G ds us):bo w M G (cs++ds) (vs++us):=by
 refine⟨by simp[h.1,k.1],λi x v hx hv=> ?_⟩
 by_cases hi:i<cs.length
 ·rw[List.getElem?_append_left hi]at hx;rw[List.getElem?_append_left (by rw[h.1];exact hi)]at hv
  exact h.2 i x v hx hv
 ·rw[List.getElem?_append_right (by omega)]at hx
  rw[List.getElem?_append_right (by rw[h.1];omega),h.1]at hv
  exact k.2 _ x v hx hv
def bo.take{cs:List PV}{vs:List Value}(h:bo w M G cs vs)(n:Nat):bo w M G (cs.take n) (vs.take n):=by
 refine⟨by simp[h.1],λi x v hx hv=> ?_⟩
 rw[Qq68]at hx hv;split at hx
 ·rename_i hi;rw[Qr hi]at hv;exact h.2 i x v hx hv
 ·cases hx
def bo.drop{cs:List PV}{vs:List Value}(h:bo w M G cs vs)(n:Nat):bo w M G (cs.drop n) (vs.drop n):=by
 refine⟨by simp[h.1],λi x v hx hv=> ?_⟩
 rw[List.getElem?_drop]at hx hv;exact h.2 _ x v hx hv
def bo.get{cs:List PV}{vs:List Value}(h:bo w M G cs vs){i:Nat}{x:PV}(hx:cs[i]?=some x):∃v,vs[i]?=some v/\bp w M G x v:=by
 have hi:i<vs.length:=by rw[h.1];exact(Qw.1 hx).1
 exact⟨vs[i],Qv hi,h.2 i x _ hx (Qv hi)⟩
def PV.one:PV->Bool
 | .int ..| .bool _| .gL| .str _| .lL| .eG| .bI ..| .jz ..| .ptr ..| .fh ..| .ref _| .sl _| .own ..| .view ..| .jQ ..=>true
 |_=>false
def PV.cells:PV->List PV
 | .agg cs=>cs
 |x=>[x]
def bp.one{x:PV}{v:Value}(h:bp w M G x v)(h1:x.one=true):v.oneCell'=true/\v.cells=#[v]:=by cases h<;>simp[PV.one]at h1<;>exact⟨rfl,rfl⟩
def bp.cells{x:PV}{v:Value}(h:bp w M G x v)(h1:∀y∈x.cells,y.one=true):bo w M G x.cells v.cells.toList/\∀u∈v.cells.toList,u.oneCell'=true:=by
 have go:∀{cs:List PV} {vs:List Value},bo w M G cs vs->(∀y∈cs,y.one=true)->∀u∈vs,u.oneCell'=true:=by
  intro cs vs hr h1 u hu;obtain⟨i,hi,rfl⟩:=List.mem_iff_getElem.1 hu;have hx:i<cs.length:=by rw[<-hr.1];exact hi
  exact((hr.2 i cs[i] vs[i] (Qv hx) (Qv hi)).one (h1 _ (Q0 hx))).1
 cases hx:x with
 |agg cs=>
  subst hx
  cases h with
  |agg _ vs hl h=>have hr:bo w M G cs vs:=⟨hl,h⟩;exact⟨by simpa[PV.cells,Value.cells]using hr,by simpa[Value.cells]using go hr (by simpa[PV.cells]using h1)⟩
 |_=>
  have hc:x.cells=[x]:=by rw[hx];rfl
  rw[<-hx];rw[hc]at h1;obtain⟨h2,h3⟩:=h.one (h1 x (by simp))
  rw[hc,h3];exact⟨.cons h .nil,by simpa using h2⟩
end
end
section
open Go.RowKit
inductive xW where
 |dead
 |box (cs:List PV)
 |row (e:TypeId) (k:Nat) (es:List (List PV))
structure gm where
 av:Nat
 c:xW
def xW.live:xW->Bool
 | .dead=>false
 |_=>true
structure St where
 env:Nat->PV
 H:Nat->gm
 N:Nat
def bU{α:Type}(f:Nat->α)(i:Nat)(x:α):Nat->α:=λj=>if j=i then x else f j
def ct{α:Type}(f:Nat->α)(i:Nat)(x:α):bU f i x i=x:=by simp[bU]
def c7{α:Type}(f:Nat->α){i j:Nat}(x:α)(h:j≠i):bU f i x j=f j:=by simp[bU,h]
def isC:Obj->Bool
 | .cells ..=>true
 |_=>false
def Ko:Obj->Bool
 | .cells ..| .map ..=>true
 |_=>false
def agi{o:Obj}(h:isC o=true):Ko o=true:=by cases o<;>first|rfl|cases h
structure Kept (w w':World) (M M':Nat->Prop):Prop where
 k:∀(b:Nat) (o:Obj),w.heap[b]?=some o->Ko o=true->¬M b->w'.heap[b]?=some o/\¬M' b
def Kept.trans{a b c:World}{M M' M'':Nat->Prop}(h:Kept a b M M')(k:Kept b c M' M''):Kept a c M M'':=⟨λq o h1 h2 h3=>let⟨h4,h5⟩:=h.k q o h1 h2 h3;k.k q o h4 h2 h5⟩
def Kept.top(w w':World)(M':Nat->Prop):Kept w w' (λ_=>True) M':=⟨λ_ _ _ _ hm=>absurd trivial hm⟩
def Kept.of{w:World}{M M':Nat->Prop}(h:∀b,¬M b->¬M' b):Kept w w M M':=⟨λb _ h1 _ h3=>⟨h1,h b h3⟩⟩
def Kept.stays{w w':World}{M M':Nat->Prop}(h:Kept w w' M M'):cZ w w' M M':=by
 refine⟨λp v hp hm=> ?_,λb es ck hb hm=>h.k b _ hb rfl hm⟩
 have hc:∃o,w.heap[p.block]?=some o/\Ko o=true:=by
  unfold World.cell? at hp
  cases ho:w.heap[p.block]? with
  |none=>rw[ho]at hp;simp at hp
  |some o=>refine⟨o,rfl,?_⟩;rw[ho]at hp;cases o<;>first|rfl|(simp at hp)
 obtain⟨o,ho,hoc⟩:=hc;obtain⟨h1,h2⟩:=h.k _ o ho hoc hm;exact⟨(World.cell?_of_block (h1.trans ho.symm)).trans hp,h2⟩
structure Di (w w':World):Prop where
 size:w.heap.size<=w'.heap.size
 same:∀(k:Nat) (o:Obj),w.heap[k]?=some o->isC o=false->w'.heap[k]?=some o
def Di.refl(w:World):Di w w:=⟨QI _,λ_ _ h _=>h⟩
def Di.trans{a b c:World}(h:Di a b)(k:Di b c):Di a c:=⟨QK h.size k.size,λi o hi ho=>k.same i o (h.same i o hi ho) ho⟩
def WF(rd:Option Nat):Fence:={Fence.wide with round:=rd}
def DK{rd:Option Nat}{n:Nat}{P:Program}{f:FuncId}{args:Array Value}{w:World}{R:Ending->World->Prop}:CallsIn (WF rd) n P f args w R↔Calls P f args w R:=
 (show CallsIn (WF rd) n P f args w R↔CallsIn Fence.wide n P f args w R from Iff.rfl).trans callsIn_wide
def aaa:List (Nat×(Obj->Prop)):=[]
def gb(b:Nat):Prop:=∃q∈aaa,q.1=b
def GI(w:World):Prop:=∀q∈aaa,∃o,w.heap[q.1]?=some o/\q.2 o
structure xG (w:World) (X:Nat->Prop):Prop where
 lt:∀b,X b->b<w.heap.size
 ng:∀b,X b->¬gb b
 gi:GI w
def GI.lt{w:World}(h:GI w){b:Nat}(hb:gb b):b<w.heap.size:=by obtain⟨q,hq,rfl⟩:=hb;obtain⟨o,ho,_⟩:=h q hq;exact(Q9.1 ho).1
def GI.eO{w w':World}(h:GI w)(hb:∀b,gb b->w'.heap[b]?=w.heap[b]?):GI w':=λq hq=>by obtain⟨o,ho,hp⟩:=h q hq;exact⟨o,(hb _ ⟨q,hq,rfl⟩).trans ho,hp⟩
def xG.nil{w:World}(h:GI w):xG w λ_=>False:=⟨λ_ hb=>hb.elim,λ_ hb=>hb.elim,h⟩
structure En where
 w0:World
 rb:Option Nat
 nt:Nat
 rd:Option Nat
 nd:Bool
 kt:Nat->Option Value
 wk:World
 wm:World
 M0:Nat->Prop
 X:Nat->Prop
 H0:Nat->Prop
 hX:xG w0 λb=>X b/\¬H0 b
 NP:Bool
 rv:Value
 rk:Bool
 Df:∀b,rb=some b->b<w0.heap.size/\¬gb b
 PO:rk=true->∀b,rb=some b->¬X b
def fN(E:En)(v:Value):Nat:=if E.rk=true/\E.rb≠none/\cd v=E.rb then 0 else E.w0.heap.size
def CX{E:En}{v v':Value}(h:cd v=cd v'):fN E v=fN E v':=by simp[fN,h]
def OE(E:En)(v:Value):fN E v<=E.w0.heap.size:=by unfold fN;split<;>omega
def MA{E:En}{v:Value}{g:Nat}(h:cd v=some g)(hg:E.w0.heap.size<=g):fN E v=E.w0.heap.size:=by unfold fN;rw[Qs];rintro⟨_,_,h1⟩;rw[h]at h1;have:=(E.Df g h1.symm).1;omega
def HG{E:En}{v:Value}{g:Nat}(h:cd v=some g)(hb:fN E v<=g):(E.rk=true/\E.rb=some g)\/E.w0.heap.size<=g:=by
 unfold fN at hb;split at hb
 ·rename_i hc;exact .inl ⟨hc.1,by rw[<-hc.2.2,h]⟩
 ·exact .inr hb
def rV:Bool:=true
def DL(w w':World):Prop:=rV=true->w.drawn<=w'.drawn
def DL.refl(w:World):DL w w:=λ_=>QI _
def DL.of{w w':World}(h:w.drawn<=w'.drawn):DL w w':=λ_=>h
def DL.trans{a b c:World}(h:DL a b)(k:DL b c):DL a c:=λe=>QK (h e) (k e)
structure Fr (rb:Option Nat) (w0 w:World):Prop where
 os:w.os=w0.os
 tape:w.tape=w0.tape
 output:w.output=w0.output
 size:w0.heap.size<=w.heap.size
 block:∀b,b<w0.heap.size->rb≠some b->w.heap[b]?=w0.heap[b]?
 drawn:DL w0 w
def Fr.refl(rb:Option Nat)(w:World):Fr rb w w:=⟨rfl,rfl,rfl,QI _,λ_ _ _=>rfl,DL.refl _⟩
def bl(E:En)(S:St)(L:Nat->Value)(b:Nat):Prop:=(∃id,id<S.N/\(S.H id).c.live=true/\cd (L id)=some b)\/E.X b
def St.gh(S:St)(L:Nat->Value):Gh:=⟨S.N,L,λid=>(S.H id).av⟩
def sd(E:En)(w:World)(M:Nat->Prop)(G:Gh)(v:Value):xW->Prop
 | .dead=>True
 | .box cs=>∃(b:Nat) (cur:Array Value) (T:TypeId),v= .pointer (some ⟨b,0,none⟩)/\w.heap[b]?=some (.cells cur T (0,0))/\(E.rb=some b\/E.w0.heap.size<=b)/\bo w M G cs cur.toList
 | .row e k es=>∃(vs:List Value),w.ownsRow (fN E v) e k v es.length vs/\(∀x∈es,x.length=k)/\bo w M G es.flatten vs
def En.can(E:En)(d:Nat):Prop:=d<E.nt/\E.kt d=none
structure Marks (E:En) (a:Act) (w:World):Prop where
 none:E.nd=true->a.defers=[]
 nodup:a.defers.Nodup
 at_:∀d∈a.defers,∃D,d={target:= .collected D,args:=#[]}/\E.w0.heap.size<=D/\w.heap[D]?=some (.deferred (some []))
def Marks.nil{E:En}{a:Act}{w:World}(h:a.defers=[]):Marks E a w:=⟨λ_=>h,by rw[h];exact List.nodup_nil,λd hd=>by rw[h]at hd;cases hd⟩
structure FrE (E:En) (w:World):Prop extends Fr E.rb E.w0 w where
 ko:Di E.wk w
structure Rel (E:En) (S:St) (a:Act) (w:World) (L:Nat->Value):Prop where
 defers:Marks E a w
 size:a.tmps.size=E.nt/\∀t v,E.kt t=some v->a.tmps.getD t undef=v
 env:∀t,bp w (bl E S L) (S.gh L) (S.env t) (a.tmps.getD t undef)
 obj:∀id,id<S.N->sd E w (bl E S L) (S.gh L) (L id) (S.H id).c
 apart:∀i j b,i<S.N->j<S.N->(S.H i).c.live=true->(S.H j).c.live=true->cd (L i)=some b->cd (L j)=some b->i=j
 fresh:∀id,S.N<=id->S.H id=⟨0,.dead⟩
 fr:FrE E w
 Bb:E.NP=true->(S.H 0).c.live=true->(S.H 0).av=0->L 0=E.rv
 an:Kept E.wm w E.M0 (bl E S L)/\(∀id b,id<S.N->(S.H id).c.live=true->cd (L id)=some b->E.rb=some b->id=0)/\
  ∀b,E.H0 b->¬gb b/\(∃o,E.wm.heap[b]?=some o/\Ko o=true/\w.heap[b]?=some o)/\∀id,id<S.N->(S.H id).c.live=true->cd (L id)≠some b
def KN(a:Addr)(i:Nat):(a.add i).block=a.block:=by unfold Addr.add;split<;>rfl
def Y7{w:World}{a:Addr}{v:Value}(h:w.cell? a=some v):a.block<w.heap.size:=World.block_lt_of_cell? w a h
def sd.mono{E:En}{w w':World}{M M':Nat->Prop}{G G':Gh}{v:Value}{c:xW}(hs:cZ w w' M M')(hg:G.le G')
  (hb:∀b,cd v=some b->b<w.heap.size->w'.heap[b]?=w.heap[b]?) (h:sd E w M G v c):sd E w' M' G' v c:=by
 cases c with
 |dead=>trivial
 |box cs=>obtain⟨b,cur,T,rfl,hh,hE,hr⟩:=h;exact⟨b,cur,T,rfl,(hb b rfl (Q9.1 hh).1).trans hh,hE,hr.mono hs hg⟩
 |row e k cs=>
  obtain⟨vs,ho,hk,hr⟩:=h;refine⟨vs,⟨ho.1,?_⟩,hk,hr.mono hs hg⟩;rcases ho.2 with hn|⟨g,cap,cur,rfl,hb1,hh,rest⟩
  ·exact .inl hn
  ·exact .inr ⟨g,cap,cur,rfl,hb1,(hb g rfl (Q9.1 hh).1).trans hh,rest⟩
def sd.yr{E:En}{w:World}{M:Nat->Prop}{G:Gh}{v:Value}{c:xW}(h:sd E w M G v c)(hl:c.live=true){b:Nat}(hb:cd v=some b):
  b<w.heap.size/\(E.rb=some b\/E.w0.heap.size<=b):=by
 cases c with
 |dead=>cases hl
 |box cs=>obtain⟨b',cur,T,rfl,hh,hE,_⟩:=h;simp only[cd,Qf]at hb;subst hb;exact⟨(Q9.1 hh).1,hE⟩
 |row e k cs=>
  obtain⟨vs,ho,_⟩:=h;rcases ho.2 with⟨rfl,_⟩|⟨g,cap,cur,rfl,hb1,hh,rest⟩
  ·simp[cd]at hb
  ·simp only[cd,Qf]at hb;subst hb;exact⟨(Q9.1 hh).1,(HG rfl hb1).imp (·.2) id⟩
section
variable {E : En} {S : St} {a : Act} {w : World} {L : Nat -> Value}
def Marks.oth{w':World}(h:Marks E a w)(ho:Di w w'):Marks E a w':=⟨h.none,h.nodup,λd hd=>by
 obtain⟨D,h1,h2,h3⟩:=h.at_ d hd
 exact⟨D,h1,h2,ho.same D _ h3 rfl⟩⟩
def sd.cells{M:Nat->Prop}{G:Gh}{v:Value}{c:xW}(h:sd E w M G v c)(hl:c.live=true){b:Nat}(hb:cd v=some b):∃o,w.heap[b]?=some o/\isC o=true:=by
 cases c with
 |dead=>cases hl
 |box cs=>obtain⟨b',cur,T,rfl,hh,hE,_⟩:=h;simp only[cd,Qf]at hb;subst hb;exact⟨_,hh,rfl⟩
 |row e k cs=>
  obtain⟨vs,ho,_⟩:=h;rcases ho.2 with⟨rfl,_⟩|⟨g,cap,cur,rfl,hb1,hh,rest⟩
  ·simp[cd]at hb
  ·simp only[cd,Qf]at hb;subst hb;exact⟨_,hh,rfl⟩
def Nj{a:Act}{d t:Nat}{v:Value}(h:t≠d):(a.put (some d) v).tmps.getD t undef=a.tmps.getD t undef:=by simp only[Act.put,QN];rw[Array.getElem?_setIfInBounds_ne (λe=>h e.symm)]
def Rel.put(h:Rel E S a w L){d:Nat}{x:PV}{v:Value}(hd:E.can d)(hx:bp w (bl E S L) (S.gh L) x v):
  Rel E {S with env:=bU S.env d x} (a.put (some d) v) w L:=by
 refine⟨⟨h.defers.none,h.defers.nodup,h.defers.at_⟩,⟨by simp[Act.put,h.size.1],λt u hu=> ?_⟩,λt=> ?_,h.obj,h.apart,h.fresh,h.fr,h.Bb,h.an⟩
 ·rw[Nj (λe=>by subst e;rw[hd.2]at hu;cases hu)]
  exact h.size.2 t u hu
 show bp w (bl E S L) (S.gh L) (bU S.env d x t) _
 by_cases ht:t=d
 ·subst ht;have:(a.put (some t) v).tmps.getD t undef=v:=by simp[Act.put,QN,Array.getElem?_setIfInBounds_self_of_lt (show t<a.tmps.size by rw[h.size.1];exact hd.1)]
  rw[this,ct];exact hx
 ·have:(a.put (some d) v).tmps.getD t undef=a.tmps.getD t undef:=by
   simp only[Act.put,QN];rw[Array.getElem?_setIfInBounds_ne (λe=>ht e.symm)]
  rw[this,c7 _ _ ht];exact h.env t
def Rel.grow(h:Rel E S a w L){w':World}(hos:w'.os=w.os)(htape:w'.tape=w.tape)(hout:w'.output=w.output)(hsz:w.heap.size<=w'.heap.size)
  (hb:∀b,b<w.heap.size->w'.heap[b]?=w.heap[b]?) (hdr:DL w w':=by first|exact DL.refl _|exact DL.of (QI _)|exact DL.of (by first|(simp;done)|omega)):Rel E S a w' L/\cZ w w' (bl E S L) (bl E S L):=by
 have hs:cZ w w' (bl E S L) (bl E S L):=⟨λp v hp hm=>⟨(World.cell?_of_block (hb _ (Y7 hp))).trans hp,hm⟩,λk _ _ hk hm=>⟨(hb k (Q9.1 hk).1).trans hk,hm⟩⟩
 have ho:Di w w':=⟨hsz,λk o hk _=>(hb k (Q9.1 hk).1).trans hk⟩
 refine⟨⟨h.defers.oth ho,h.size,λt=>(h.env t).mono hs (Gh.le.refl _),λid hid=>(h.obj id hid).mono hs (Gh.le.refl _) (λb _ hlt=>hb b hlt),h.apart,h.fresh,
  ⟨⟨hos.trans h.fr.os,htape.trans h.fr.tape,hout.trans h.fr.output,QK h.fr.size hsz,λb h1 h2=>(hb b (QJ h1 h.fr.size)).trans (h.fr.block b h1 h2),h.fr.drawn.trans hdr⟩,h.fr.ko.trans ho⟩,h.Bb,h.an.1.trans ⟨λb o h1 _ hm=>⟨(hb b (Q9.1 h1).1).trans h1,hm⟩⟩,h.an.2.1,λb hH=>(let⟨q1,⟨o,q2,q3,q4⟩,q5⟩:=h.an.2.2 b hH;⟨q1,⟨o,q2,q3,(hb b (Q9.1 q4).1).trans q4⟩,q5⟩)⟩,hs⟩
def Rel.vR(h:Rel E S a w L){w':World}{id:Nat}(hid:id<S.N)(o:gm)(l:Value)
  (hv:(o.av=(S.H id).av/\l=L id/\(S.H id).c.live=true)\/(S.H id).av<o.av)
  (hos:w'.os=w.os) (htape:w'.tape=w.tape) (hout:w'.output=w.output) (hsz:w.heap.size<=w'.heap.size)
  (hb:∀b,b<w.heap.size->((S.H id).c.live=true->cd (L id)≠some b)->w'.heap[b]?=w.heap[b]?)
  (hl:∀b,o.c.live=true->cd l=some b->((S.H id).c.live=true/\cd (L id)=some b)\/w.heap.size<=b)
  (hnew:cZ w w' (bl E S L) (bl E {S with H:=bU S.H id o} (bU L id l))->(S.gh L).le (St.gh {S with H:=bU S.H id o} (bU L id l))->
   sd E w' (bl E {S with H:=bU S.H id o} (bU L id l)) (St.gh {S with H:=bU S.H id o} (bU L id l)) l o.c)
  (hdr:DL w w':=by first|exact DL.refl _|exact DL.of (QI _)|exact DL.of (by first|(simp;done)|omega)):
  Rel E {S with H:=bU S.H id o} a w' (bU L id l)/\cZ w w' (bl E S L) (bl E {S with H:=bU S.H id o} (bU L id l))/\(S.gh L).le (St.gh {S with H:=bU S.H id o} (bU L id l)):=by
 have hg:(S.gh L).le (St.gh {S with H:=bU S.H id o} (bU L id l)):=by
  refine⟨QI _,λj hj=> ?_⟩
  by_cases hji:j=id
  ·subst hji;rcases hv with⟨e1,e2,_⟩|e
   ·exact .inl ⟨by simp[St.gh,ct,e1],by simp[St.gh,ct,e2]⟩
   ·exact .inr (by simpa[St.gh,ct]using e)
  ·exact .inl ⟨by simp[St.gh,c7 _ _ hji],by simp[St.gh,c7 _ _ hji]⟩
 have hm:∀b,b<w.heap.size->bl E {S with H:=bU S.H id o} (bU L id l) b->bl E S L b:=by
  rintro b hlt (⟨j,hj,hlive,hblk⟩|hX)
  case inr=>exact .inr hX
  simp only at hj hlive
  by_cases hji:j=id
  ·subst hji;rw[ct]at hlive hblk;rcases hl b hlive hblk with⟨h1,h2⟩|h1
   ·exact .inl ⟨j,hj,h1,h2⟩
   ·omega
  ·rw[c7 _ _ hji]at hlive hblk;exact .inl ⟨j,hj,hlive,hblk⟩
 have ho:Di w w':=⟨hsz,λk o hk hc=>(hb k (Q9.1 hk).1 (λh1 h2=>by
  obtain⟨o',h3,h4⟩:=(h.obj id hid).cells h1 h2;rw[hk]at h3;injection h3 with h3
  rw[h3,h4]at hc
  cases hc)).trans hk⟩
 have hs:cZ w w' (bl E S L) (bl E {S with H:=bU S.H id o} (bU L id l)):=by
  refine⟨λp v hp hnm=> ?_,λk _ _ hk hnm=>⟨ho.same k _ hk rfl,λhm'=>hnm (hm _ (Q9.1 hk).1 hm')⟩⟩
  have hlt:=Y7 hp;exact⟨(World.cell?_of_block (hb _ hlt (λh1 h2=>hnm (.inl ⟨id,hid,h1,h2⟩)))).trans hp,λhm'=>hnm (hm _ hlt hm')⟩
 refine⟨⟨h.defers.oth ho,h.size,λt=>(h.env t).mono hs hg,λj hj=> ?_,?_,λj hj=> ?_,?_,?_,h.an.1.trans ⟨λb o h1 _ hnm=> ?_⟩,λj b hj hlv hbj Df=> ?_,λb hH=> ?_⟩,hs,hg⟩
 rotate_left 5
 ·have hlt:=(Q9.1 h1).1;exact⟨(hb b hlt (λh2 h3=>hnm (.inl ⟨id,hid,h2,h3⟩))).trans h1,λhm'=>hnm (hm b hlt hm')⟩
 ·simp only at hj hlv
  by_cases hji:j=id
  ·subst hji;rw[ct]at hlv hbj;rcases hl b hlv hbj with⟨h1,h2⟩|h1
   ·exact h.an.2.1 j b hj h1 h2 Df
   ·have:=(E.Df b Df).1;have:=h.fr.size;omega
  ·rw[c7 _ _ hji]at hlv hbj;exact h.an.2.1 j b hj hlv hbj Df
 ·obtain⟨q2,⟨o,q3,q5,q6⟩,q4⟩:=h.an.2.2 b hH;have q1:b<w.heap.size:=(Q9.1 q6).1;refine⟨q2,⟨o,q3,q5,(hb b q1 (λh1 h2=>q4 id hid h1 h2)).trans q6⟩,λj hj hlv hbj=> ?_⟩
  simp only at hj hlv
  by_cases hji:j=id
  ·subst hji;rw[ct]at hlv hbj;rcases hl b hlv hbj with⟨h1,h2⟩|h1
   ·exact q4 j hj h1 h2
   ·omega
  ·rw[c7 _ _ hji]at hlv hbj;exact q4 j hj hlv hbj
 ·simp only at hj ⊢
  by_cases hji:j=id
  ·subst hji;rw[ct,ct];exact hnew hs hg
  ·rw[c7 _ _ hji,c7 _ _ hji]
   cases hlv:(S.H j).c.live with
   |false=>
    cases hc:(S.H j).c with
    |dead=>trivial
    |box cs|row e k cs=>rw[hc]at hlv;cases hlv
   |true=>refine(h.obj j hj).mono hs hg (λb hbj hlt=>hb b hlt (λh1 h2=>hji (h.apart j id b hj hid hlv h1 hbj h2)))
 ·intro i j b hi hj hli hlj hbi hbj;simp only at hi hj hli hlj
  by_cases hii:i=id
  ·by_cases hjj:j=id
   ·rw[hii,hjj]
   ·subst hii;rw[ct]at hli hbi;rw[c7 _ _ hjj]at hlj hbj;rcases hl b hli hbi with⟨h1,h2⟩|h1
    ·exact h.apart i j b hi hj h1 hlj h2 hbj
    ·have:=((h.obj j hj).yr hlj hbj).1;omega
  ·rw[c7 _ _ hii]at hli hbi
   by_cases hjj:j=id
   ·subst hjj;rw[ct]at hlj hbj;rcases hl b hlj hbj with⟨h1,h2⟩|h1
    ·exact h.apart i j b hi hj hli h1 hbi h2
    ·have:=((h.obj i hi).yr hli hbi).1;omega
   ·rw[c7 _ _ hjj]at hlj hbj;exact h.apart i j b hi hj hli hlj hbi hbj
 ·simp only at hj ⊢;rw[c7 _ _ (by omega)]
  exact h.fresh j hj
 ·refine⟨⟨hos.trans h.fr.os,htape.trans h.fr.tape,hout.trans h.fr.output,QK h.fr.size hsz,λb h1 h2=> ?_,h.fr.drawn.trans hdr⟩,h.fr.ko.trans ho⟩
  refine(hb b (QJ h1 h.fr.size) (λh3 h4=> ?_)).trans (h.fr.block b h1 h2)
  rcases((h.obj id hid).yr h3 h4).2 with h5|h5
  ·exact h2 h5
  ·omega
 ·intro hb0 hlv hvr;simp only at hlv hvr
  by_cases hi0:0=id
  ·subst hi0;rw[ct]at hlv hvr ⊢;rcases hv with⟨e1,e2,e3⟩|e
   ·rw[e2];exact h.Bb hb0 e3 (by omega)
   ·omega
  ·rw[c7 _ _ hi0]at hlv hvr ⊢;exact h.Bb hb0 hlv hvr
def Rel.drew(h:Rel E S a w L)(n:Nat)(hn:w.drawn<=n:=by first|exact QI _|exact Nat.le_add_right _ _|exact Nat.le_succ _|assumption|omega):Rel E S a {w with drawn:=n} L:=
 (h.grow (w':={w with drawn:=n}) rfl rfl rfl (QI _) (λ_ _=>rfl) (DL.of hn)).1
def Rel.room(h:Rel E S a w L)(k:Nat):Rel E {S with N:=S.N+k} a w L:=by
 have hm:∀b,bl E {S with N:=S.N+k} L b↔bl E S L b:=by
  intro b;constructor
  ·rintro(⟨j,hj,hl,hb⟩|hX)
   case inr=>exact .inr hX
   simp only at hj hl
   by_cases hlt:j<S.N
   ·exact .inl ⟨j,hlt,hl,hb⟩
   ·rw[h.fresh j (by omega)]at hl
    cases hl
  ·rintro(⟨j,hj,hl,hb⟩|hX)
   ·exact .inl ⟨j,by simp only;omega,hl,hb⟩
   ·exact .inr hX
 have hs:cZ w w (bl E S L) (bl E {S with N:=S.N+k} L):=(cZ.of λ_ hn=>λhm'=>hn ((hm _).1 hm'))
 have hg:(S.gh L).le (St.gh {S with N:=S.N+k} L):=⟨by simp[St.gh],λ_ _=> .inl ⟨rfl,rfl⟩⟩
 refine⟨h.defers,h.size,λt=>(h.env t).mono hs hg,λid hid=> ?_,λi j b hi hj hli hlj hbi hbj=> ?_,λid hid=>h.fresh id (by simp only at hid;omega),h.fr,h.Bb,h.an.1.trans (.of λb hn hm'=>hn ((hm b).1 hm')),λid b hid hl hb hr=> ?_,λb hH=>⟨(h.an.2.2 b hH).1,(h.an.2.2 b hH).2.1,λid hid hl=> ?_⟩⟩
 rotate_left 2
 ·simp only at hid hl
  by_cases hlt:id<S.N
  ·exact h.an.2.1 id b hlt hl hb hr
  ·rw[h.fresh id (by omega)]at hl;cases hl
 ·simp only at hid hl
  by_cases hlt:id<S.N
  ·exact(h.an.2.2 b hH).2.2 id hlt hl
  ·rw[h.fresh id (by omega)]at hl;cases hl
 ·by_cases hlt:id<S.N
  ·exact(h.obj id hlt).mono hs hg (λ_ _ _=>rfl)
  ·simp only;rw[h.fresh id (by omega)]
   trivial
 ·simp only at hi hj hli hlj
  have hi':i<S.N:=by
   rcases Nat.lt_or_ge i S.N with h1|h1
   ·exact h1
   ·rw[h.fresh i h1]at hli;cases hli
  have hj':j<S.N:=by
   rcases Nat.lt_or_ge j S.N with h1|h1
   ·exact h1
   ·rw[h.fresh j h1]at hlj;cases hlj
  exact h.apart i j b hi' hj' hli hlj hbi hbj
def Rel.acN(h:Rel E S a w L){b:Nat}(hb:E.X b):b<w.heap.size:=by
 by_cases hH:E.H0 b
 ·obtain⟨_,⟨o,_,_,q⟩,_⟩:=h.an.2.2 b hH;exact(Q9.1 q).1
 ·exact QJ (E.hX.lt b ⟨hb,hH⟩) h.fr.size
def Rel.akk(h:Rel E S a w L){b:Nat}(hb:E.X b):¬gb b:=by
 by_cases hH:E.H0 b
 ·exact(h.an.2.2 b hH).1
 ·exact E.hX.ng b ⟨hb,hH⟩
end
end
section
open Go.RowKit
inductive bB where
 |tmp (t:Nat)
 |zH (x:PV)
def bB.val(S:St):bB->PV
 | .tmp t=>S.env t
 | .zH x=>x
inductive LK where
 |i
 |s
 |b
inductive cu where
 |qj (x:bB)
 |pick (c x y:bB)
 |box (x:bB)
 |Gn (x:bB)
 |alloc (z:List PV)
 |load (n:Option Nat) (p:bB)
 |store (n:Nat) (p x:bB)
 |build (z:List PV) (ps:List (Nat×Nat×bB))
 |Rl (m:Bool) (e k:Nat) (z:List (List PV)) (ps:List (Nat×bB))
 |Cb (off:Nat) (p:bB)
 |uo (k:Nat) (x i:bB)
 |bin (op:BinOp) (x y:bB)
 |mu (neg:Bool) (x y:bB)
 |KB (neg:Bool) (x y:bB)
 |not (x:bB)
 |conv (k:IntKind) (x:bB)
 |len (isStr:Bool) (x:bB)
 |call (f:FuncId) (xs:List bB)
 |uw (fv:bB) (xs:List bB)
 |cz (fz:Bool) (e k bytes:Nat) (s x:bB)
 |B4 (x:bB)
 |Gj (i:Nat) (x:bB)
 |MH (f:FuncId) (caps:List bB)
 |MI (f:FuncId) (first:List bB)
 |G4 (neg:Bool) (ks:List LK) (x y:bB)
 |Pb (e k bytes:Nat) (z:List PV) (l c:bB)
 |Jw (k:Nat) (x:bB) (lo hi:Option bB)
 |we (mx:Bool) (x y:bB)
 |As (neg:Bool) (x:bB)
 |clear (k:Nat) (z:List PV) (x:bB)
 |Gr (e:Nat) (n:Option Nat) (len k:Nat) (x i:bB)
 |MP (n:Option Nat) (off:Nat) (x:bB)
inductive RK where
 |no
 |bor (e k:Nat)
 |Ri (e k:Nat)
 |fre (e k:Nat)
structure Model where
 recv:Bool
 pos:Nat
 fresh:Bool
 m:List PV->List PV->Option (PV×List PV)
 rk:RK
 ro:Bool
 rm:List (List PV)->List PV->Option (PV×List (List PV))
abbrev qv:=FuncId->Option Model
def cutAt{α:Type}(p:Nat)(l:List α):List α:=l.take p++l.drop (p+1)
def jF{α:Type}(p:Nat)(x l:List α):List α:=l.take p++x++l.drop p
def PV.closed:PV->Bool
 | .int ..| .bool _| .str _| .lL| .eG| .sl _| .ref _| .jQ ..| .bI _ []=>true
 |_=>false
def PV.rI:PV->Bool
 | .agg cs=>cs.all PV.plain
 |x=>x.plain
def PV.vV:PV->Bool
 | .eN cs=>cs.all PV.rI
 |x=>x.rI
def PV.bJ:PV->Bool
 | .agg cs| .eN cs| .bI _ cs=>cs.all PV.closed
 |x=>x.closed
def PV.xj:PV->Bool
 | .eN cs=>cs.all PV.bJ
 |x=>x.bJ
def fz(H:Nat->gm)(ex:Option Nat):Nat->PV->PV
 |0,x=>match x with| .eG=> .sl []|x=>if x.closed then x else .any
 |_+1,.eG=> .sl []
 |n+1,.own id av=>if some id=ex\/(H id).av≠av then .any else
   match(H id).c with
   | .row _ _ es=> .sl (es.map λe=>e.map (fz H ex n))
   |_=> .any
 |n+1,.ptr id av off=>if some id=ex\/(H id).av≠av then .any else
   match(H id).c with
   | .box cs=> .ref ((cs.map (fz H ex n)).drop off)
   |_=> .any
 |n+1,.agg cs=> .agg (cs.map (fz H ex n))
 |n+1,.eN cs=> .eN (cs.map (fz H ex n))
 |n+1,.bI f cs=> .bI f (cs.map (fz H ex n))
 |_+1,x=>if x.closed then x else .any
def nz:PV->PV
 | .eG=> .sl []
 |x=>x
def PV.VO:PV->Bool
 | .eG=>false
 |_=>true
def Ek(es:List (List PV)):List (List PV):=es.map λe=>e.map nz
def Ct(es:List (List PV)):Bool:=es.all λu=>u.all PV.closed
def JQ(es:List (List PV)):Bool:=es.all λu=>u.all PV.plain
def BQ(m:Model)(e k:Nat)(S:St)(args:List PV):Option (PV×Option (Nat×gm)):=
 match args with
 | .own id av::rest=>
  if(S.H id).av=av then
   match(S.H id).c with
   | .row e' k' es=>
    if e'=e/\k'=k/\Ct es=true then
     match m.rm es (rest.map (fz S.H (some id) 9))with
     |some (r,es')=>if(r.vV||rest.all PV.bJ&&r.xj)&&Ct es'&&(JQ es'||rest.all PV.bJ)then some (r,some (id,⟨av,.row e k es'⟩))else none
     |none=>none
    else none
   |_=>none
  else none
 |_=>none
def BP(m:Model)(e k:Nat)(S:St)(args:List PV):Option (PV×Option (Nat×gm)):=
 match args with
 | .own id av::rest=>
  if(S.H id).av=av then
   match(S.H id).c with
   | .row e' k' es=>
    if e'=e/\k'=k/\Ct es=true then
     match m.rm es (rest.map (fz S.H (some id) 9))with
     |some (_,es')=>if Ct es'&&(JQ es'||rest.all PV.bJ)then some (.own id (av+1),some (id,⟨av+1,.row e k es'⟩))else none
     |none=>none
    else none
   |_=>none
  else none
 |_=>none
def G9(m:Model)(e k:Nat)(nid:Nat)(S:St)(args:List PV):Option (PV×Option (Nat×gm)):=
 match m.rm [] (args.map (fz S.H none 9))with
 |some (_,es')=>if Ct es'&&(JQ es'||args.all PV.bJ)then some (.own nid ((S.H nid).av+1),some (nid,⟨(S.H nid).av+1,.row e k es'⟩))else none
 |none=>none
def nJ(Γ:qv)(nid:Nat)(S:St)(f:FuncId)(args:List PV):Option (PV×Option (Nat×gm)):=
 match Γ f with
 |none=>none
 |some m=>
  match m.rk with
  | .bor e k=>BQ m e k S args
  | .Ri e k=>BP m e k S args
  | .fre e k=>G9 m e k nid S args
  | .no=>
  if m.fresh then
   match m.m [] (args.map (fz S.H none 9))with
   |some (_,cs)=>if cs.all PV.closed&&(cs.all PV.plain||args.all PV.bJ)then some (.ptr nid ((S.H nid).av+1) 0,some (nid,⟨(S.H nid).av+1,.box cs⟩))else none
   |none=>none
  else if m.recv then
   match args[m.pos]? with
   |some (.ptr id av 0)=>
    if(S.H id).av=av then
     match(S.H id).c with
     | .box cs=>
      if cs.all PV.closed then
       match m.m (cs.map nz) ((cutAt m.pos args).map (fz S.H (some id) 9))with
       |some (r,cs')=>if(r.vV||(cutAt m.pos args).all PV.bJ)&&r.xj&&cs'.all PV.closed&&(cs'.all PV.plain||(cutAt m.pos args).all PV.bJ)then some (r,if m.ro&&cs.all PV.VO then none else some (id,⟨av,.box cs'⟩))else none
       |none=>none
      else none
     |_=>none
    else none
   |_=>none
  else
   match m.m [] (args.map (fz S.H none 9))with
   |some (r,_)=>if r.vV||args.all PV.bJ&&r.xj then some (r,none)else none
   |none=>none
def KO(op:BinOp)(k:IntKind)(a b:Int):Option PV:=
 match op with
 | .add=>some (.int k (k.wrap (a+b)))
 | .sub=>some (.int k (k.wrap (a - b)))
 | .mul=>some (.int k (k.wrap (a*b)))
 | .quo=>if b=0 then none else some (.int k (k.wrap (a.tdiv b)))
 | .rem=>if b=0 then none else some (.int k (a.tmod b))
 | .and=>some (.int k (k.wrap ((BitVec.ofInt k.bits a&&&BitVec.ofInt k.bits b).toNat)))
 | .or=>some (.int k (k.wrap ((BitVec.ofInt k.bits a|||BitVec.ofInt k.bits b).toNat)))
 | .xor=>some (.int k (k.wrap ((BitVec.ofInt k.bits a^^^BitVec.ofInt k.bits b).toNat)))
 | .andNot=>some (.int k (k.wrap ((BitVec.ofInt k.bits a&&& ~~~ BitVec.ofInt k.bits b).toNat)))
 | .eql=>some (.bool (decide (a=b)))
 | .neq=>some (.bool (!decide (a=b)))
 | .lss=>some (.bool (decide (a<b)))
 | .leq=>some (.bool (decide (a<=b)))
 | .gtr=>some (.bool (decide (b<a)))
 | .geq=>some (.bool (decide (b<=a)))
 |_=>none
def lI(a b:ByteArray):Bool:=Op.bytesLess a.toList b.toList
def Ro(op:BinOp)(a b:ByteArray):Option PV:=
 match op with
 | .eql=>some (.bool (decide (a=b)))
 | .neq=>some (.bool (!decide (a=b)))
 | .lss=>some (.bool (lI a b))
 | .leq=>some (.bool (lI a b||decide (a=b)))
 | .gtr=>some (.bool (!(lI a b||decide (a=b))))
 | .geq=>some (.bool (!lI a b))
 |_=>none
def LG(op:BinOp)(x y:PV):Option PV:=
 match x,y with
 | .int k a,.int k' b=>
  match op with
  | .shl=>if b<0 then none else some (.int k (k.wrap (a*2 ^ (min b.toNat k.bits))))
  | .shr=>if b<0 then none else some (.int k (a.fdiv (2 ^ (min b.toNat k.bits))))
  |_=>if k=k' then KO op k a b else none
 | .str a,.str b=>Ro op a b
 |_,_=>none
def vB:Option Nat->List PV->Option PV
 |none,x::_=>some x
 |none,[]=>none
 |some n,cs=>if n<=cs.length then some (.agg (cs.take n))else none
def iT(cs:List PV)(off:Nat)(xs:List PV):List PV:=cs.take off++xs++cs.drop (off+xs.length)
def kR(S:St):PV->Option (List (List PV))
 | .eG=>some []
 | .sl es=>some es
 | .own id av=>if(S.H id).av=av then(match(S.H id).c with| .row _ _ es=>some es|_=>none)else none
 | .view id av k lo n=>if(S.H id).av=av then(match(S.H id).c with| .row _ k' es=>if k'=k then some ((es.drop lo).take n)else none|_=>none)else none
 |_=>none
def vg(S:St)(y:Option bB)(d:Int):Option Int:=
 match y with
 |none=>some d
 |some l=>match l.val S with| .int _ n=>some n|_=>none
def tq(S:St):List PV->List (Nat×Nat×bB)->Option (List PV)
 |cs,[]=>some cs
 |cs,(off,n,x)::rest=>if(x.val S).cells.length=n/\off+n<=cs.length/\(x.val S).cells.all PV.one=true then tq S (iT cs off (x.val S).cells) rest else none
def wA(S:St)(k:Nat):List (List PV)->List (Nat×bB)->Option (List (List PV))
 |es,[]=>some es
 |es,(i,x)::rest=>if(x.val S).cells.length=k/\i<es.length/\(x.val S).cells.all PV.one=true then wA S k (es.set i (x.val S).cells) rest else none
def nH:List LK->List PV->List PV->Option Bool
 |[],[],[]=>some true
 | .i::ks,.int k a::cs,.int l b::ds=>if k=l then(nH ks cs ds).map λr=>decide (a=b)&&r else none
 | .s::ks,.str a::cs,.str b::ds| .b::ks,.bool a::cs,.bool b::ds=>(nH ks cs ds).map λr=>decide (a=b)&&r
 |_,_,_=>none
def KP(z:Bool)(id av e k:Nat)(es:List (List PV)):Option (PV×Option (Nat×gm)):=
 match z with
 |false=>some (.own id av,some (id,⟨av,.row e k es⟩))
 |true=>if es.all (λu=>u.all PV.closed)then some (.sl es,some (id,⟨av,.dead⟩))else none
def exec(Γ:qv)(nid:Nat)(S:St):cu->Option (PV×Option (Nat×gm))
 | .qj x=>some (x.val S,none)
 | .pick c x y=>match c.val S with
  | .bool true=>some (x.val S,none)
  | .bool false=>some (y.val S,none)
  |_=>none
 | .box x=>if(x.val S).cells.all PV.one then some (.ptr nid ((S.H nid).av+1) 0,some (nid,⟨(S.H nid).av+1,.box (x.val S).cells⟩))else none
 | .Gn x=>if(x.val S).cells.all PV.one&&(x.val S).cells.all PV.closed then some (.ref (x.val S).cells,none)else none
 | .alloc z=>some (.ptr nid ((S.H nid).av+1) 0,some (nid,⟨(S.H nid).av+1,.box z⟩))
 | .load n p=>match p.val S with
  | .ptr id av off=>if(S.H id).av=av then(match(S.H id).c with| .box cs=>(vB n (cs.drop off)).map (·,none)|_=>none)else none
  | .fh id av k i off=>if(S.H id).av=av then(match(S.H id).c with| .row _ k' es=>if k=k' then(match es[i]? with|some e=>(vB n (e.drop off)).map (·,none)|none=>none)else none|_=>none)else none
  | .ref cs=>(vB n cs).map (·,none)
  |_=>none
 | .store n p x=>if(x.val S).cells.length=n/\(x.val S).cells.all PV.one=true then
   match p.val S with
   | .ptr id av off=>if(S.H id).av=av then(match(S.H id).c with| .box cs=>if off+n<=cs.length then some (.undef,some (id,⟨av,.box (iT cs off (x.val S).cells)⟩))else none|_=>none)else none
   | .fh id av k i off=>if(S.H id).av=av then(match(S.H id).c with| .row e k' es=>if k=k' then(match es[i]? with|some c=>if off+n<=c.length then some (.undef,some (id,⟨av,.row e k (es.set i (iT c off ((x.val S).cells.map nz)))⟩))else none|none=>none)else none|_=>none)else none
   |_=>none
  else none
 | .build z ps=>(tq S z ps).map λcs=>(.agg cs,none)
 | .Rl m e k z ps=>match wA S k z ps with
  |some es=>if m=false/\es.all (λu=>u.all PV.closed)=true then some (.sl (Ek es),none)else some (.own nid ((S.H nid).av+1),some (nid,⟨(S.H nid).av+1,.row e k (Ek es)⟩))
  |none=>none
 | .Cb off p=>match p.val S with
  | .ptr id av o=>if(S.H id).av=av then(match(S.H id).c with| .box _=>some (.ptr id av (o+off),none)|_=>none)else none
  | .fh id av k i o=>if(S.H id).av=av then(match(S.H id).c with| .row _ _ es=>if i<es.length then some (.fh id av k i (o+off),none)else none|_=>none)else none
  | .ref cs=>some (.ref (cs.drop off),none)
  |_=>none
 | .uo k x i=>match i.val S with
  | .int _ n=>match x.val S with
   | .sl es=>if 0<=n/\n<es.length then(match es[n.toNat]? with|some e=>if e.length=k then some (.ref e,none)else none|none=>none)else none
   | .own id av=>if(S.H id).av=av then(match(S.H id).c with| .row _ k' es=>if k=k'/\0<=n/\n<es.length then some (.fh id av k n.toNat 0,none)else none|_=>none)else none
   | .view id av k0 lo m=>if(S.H id).av=av then(match(S.H id).c with| .row _ k' es=>if k=k'/\k0=k/\0<=n/\n<m/\lo+n.toNat<es.length then some (.fh id av k (lo+n.toNat) 0,none)else none|_=>none)else none
   |_=>none
  |_=>none
 | .bin op x y=>(LG op (x.val S) (y.val S)).map (·,none)
 | .mu neg x y=>match x.val S,y.val S with
  | .agg [.int k a,.str s],.agg [.int k' b,.str t]=>if k=k' then some (.bool (xor neg (decide (a=b)&&decide (s=t))),none)else none
  |_,_=>none
 | .G4 neg ks x y=>match x.val S,y.val S with
  | .agg cs,.agg ds=>(nH ks cs ds).map λb=>(.bool (xor neg b),none)
  |_,_=>none
 | .KB neg x y=>match x.val S,y.val S with
  | .bool a,.bool b=>some (.bool (xor neg (decide (a=b))),none)
  |_,_=>none
 | .not x=>match x.val S with
  | .bool b=>some (.bool !b,none)
  |_=>none
 | .conv k x=>match x.val S with
  | .int _ n=>some (.int k (k.wrap n),none)
  |_=>none
 | .len true x=>match x.val S with
  | .str s=>some (.int .i64 s.size,none)
  |_=>none
 | .len false x=>(kR S (x.val S)).map λes=>(.int .i64 es.length,none)
 | .call f xs=>nJ Γ nid S f (xs.map (·.val S))
 | .uw fv xs=>match fv.val S with
  | .bI f caps=>nJ Γ nid S f (xs.map (·.val S)++caps)
  | .jz f first=>nJ Γ nid S f (first++xs.map (·.val S))
  |_=>none
 | .cz z e k bytes s x=>match kR S (x.val S)with
  |some news=>if news.all (λu=>u.length==k&&u.all PV.one)then(match s.val S with
   | .eG=>if news.length*bytes<=140737488355328/\news.length<=maxLen then KP z nid ((S.H nid).av+1) e k news else none
   | .own id av=>if(S.H id).av=av then(match(S.H id).c with
    | .row e' k' es=>if e=e'/\k=k'/\(es.length+news.length)*bytes<=140737488355328/\es.length+news.length<=maxLen then KP z id (av+1) e k (es++news)else none
    |_=>none)else none
   |_=>none)else none
  |none=>none
 | .B4 x=>match x.val S with
  | .ptr id av off=>if(S.H id).av=av then(match(S.H id).c with| .box _=>some (.ptr id av off,none)|_=>none)else none
  | .ref cs=>some (.ref cs,none)
  | .bI f cs=>some (.bI f cs,none)
  |_=>none
 | .Gj i x=>match x.val S with
  | .eN cs=>(cs[i]?).map (·,none)
  |_=>none
 | .MH f caps=>some (.bI f (caps.map (·.val S)),none)
 | .MI f first=>some (.jz f (first.map (·.val S)),none)
 | .Pb e k bytes z l c=>match l.val S,c.val S with
  | .int _ n,.int _ m=>if n<=m/\0<=n/\m.toNat*bytes<=140737488355328/\m.toNat<=maxLen then some (.own nid ((S.H nid).av+1),some (nid,⟨(S.H nid).av+1,.row e k (replicate n.toNat (z.map nz))⟩))else none
  |_,_=>none
 | .Jw k x lo hi=>match x.val S with
  | .sl es=>if es.all (λe=>e.length==k)then
   match(match lo with|none=>some (0:Int)|some l=>(match l.val S with| .int _ n=>some n|_=>none)),(match hi with|none=>some (es.length:Int)|some h=>(match h.val S with| .int _ n=>some n|_=>none))with
   |some l,some h=>if 0<=l/\l<=h/\h<=es.length then some (.sl ((es.take h.toNat).drop l.toNat),none)else none
   |_,_=>none
   else none
  | .own id av=>if(S.H id).av=av then(match(S.H id).c with
   | .row _ k' es=>if k=k' then
    match vg S lo 0,vg S hi es.length with
    |some l,some h=>if 0<=l/\l<=h/\h<=es.length then some (.view id av k l.toNat (h.toNat - l.toNat),none)else none
    |_,_=>none
    else none
   |_=>none)else none
  | .view id av k0 lo0 n0=>if(S.H id).av=av then(match(S.H id).c with
   | .row _ k' _=>if k=k'/\k0=k then
    match vg S lo 0,vg S hi n0 with
    |some l,some h=>if 0<=l/\l<=h/\h<=n0 then some (.view id av k (lo0+l.toNat) (h.toNat - l.toNat),none)else none
    |_,_=>none
    else none
   |_=>none)else none
  |_=>none
 | .we mx x y=>match x.val S,y.val S with
  | .int k a,.int k' b=>if k=k' then some (.int k (if mx then(if b>a then b else a)else(if b<a then b else a)),none)else none
  |_,_=>none
 | .As neg x=>match x.val S with
  | .eG=>some (.bool !neg,none)
  |y=>match kR S y with
   |some []=>some (.gL,none)
   |some (_::_)=>some (.bool neg,none)
   |none=>none
 | .Gr _ n len k x i=>match x.val S,i.val S with
  | .agg cs,.int _ j=>if 0<=j/\j<len then(vB n ((cs.drop (j.toNat*k)).map nz)).map (·,none)else none
  |_,_=>none
 | .MP n off x=>match x.val S with
  | .agg cs=>(vB n (cs.drop off)).map (·,none)
  |_=>none
 | .clear k z x=>match x.val S with
  | .view id av k0 lo n=>if(S.H id).av=av then(match(S.H id).c with
   | .row e k' es=>if k=k'/\k0=k/\z.length=k/\z.all PV.one=true then some (.eN [],some (id,⟨av,.row e k (es.take lo++replicate n (z.map nz)++es.drop (lo+n))⟩))else none
   |_=>none)else none
  |_=>none
structure SG where
 d:Option Nat
 g:Option (Nat×Bool)
 op:cu
def St.cz(S:St)(d:Option Nat)(x:PV)(wr:Option (Nat×gm)):St:=
 {env:=match d with|some d=>bU S.env d x|none=>S.env,H:=match wr with|some (id,o)=>bU S.H id o|none=>S.H,N:=S.N}
def SG.wanted(S:St)(o:SG):Option Bool:=
 match o.g with
 |none=>some true
 |some (t,want)=>match S.env t with
  | .bool b=>some (b==want)
  | .undef=>some false
  |_=>none
def ya(Γ:qv)(nid:Nat)(S:St)(o:SG):Option St:=
 match o.wanted S with
 |some true=>(exec Γ nid S o.op).map λp=>S.cz o.d p.1 p.2
 |some false=>some (S.cz o.d .undef none)
 |none=>none
def CW(Γ:qv):Nat->List SG->St->Option St
 |_,[],S=>some S
 |nid,o::rest,S=>match ya Γ nid S o with
  |some S'=>CW Γ (nid+1) rest S'
  |none=>none
def G6:Value->Option PV
 | .bool b=>some (.bool b)
 | .int k n=>some (.int k n)
 | .string s=>some (.str s)
 | .pointer none=>some .lL
 | .slice none 0 0=>some .eG
 | .nilFunc=>some .any
 |_=>none
def bH:Operand->Option bB
 | .tmp t=>some (.tmp t)
 | .const v=>(G6 v).map .zH
 | .func f=>some (.zH (.bI f []))
 | .global _=>none
def vk(P:Program)(t:TypeId):Option (Option Nat):=
 match P.underlying t with
 |some (.struct _)|some (.array _ _)=>(P.info? t).map λi=>some i.size
 |some _=>some none
 |none=>none
def w4(P:Program)(t:TypeId):Option (List PV):=
 match P.info? t with
 |some i=>match i.zero with
  |some z=>if z.cells.size=i.size then z.cells.toList.mapM G6 else none
  |none=>none
 |none=>none
def yq(place:Nat->Option (Nat×Nat))(parts:List (Nat×Operand)):Option (List (Nat×Nat×bB)):=
 parts.mapM λp=>do
  let q <-place p.1
  let y <-bH p.2
  some (q.1,q.2,y)
def SP(P:Program)(sh:TypeId->Option (List LK)):List Field->Nat->Option (List LK)
 |[],_=>some []
 |f::fs,off=>
  if f.name≠ "_"/\f.offset=off then
   match sh f.type,P.info? f.type with
   |some ks,some i=>if i.size=ks.length then(SP P sh fs (off+ks.length)).map (ks++·)else none
   |_,_=>none
  else none
def BM(P:Program):Nat->TypeId->Option (List LK)
 |0,_=>none
 |d+1,t=>match P.underlying t with
  |some (.int _)=>some [.i]
  |some .string=>some [.s]
  |some .bool=>some [.b]
  |some (.struct fs)=>if P.stoodInHeld t=false then SP P (BM P d) fs.toList 0 else none
  |_=>none
def aez(hs:List Nat)(o:Oper):Bool:=match o.dst with|some t=>hs.contains t|none=>false
def FH(P:Program)(hs:List Nat)(o:Oper):Option cu:=
 match o.op with
 | .move x| .assign x=>do some (.qj (<-bH x))
 | .pick c a b=>do some (.pick (<-bH c) (<-bH a) (<-bH b))
 | .box _ x=>do
  let y <-bH x
  some (match o.dst with|some t=>(match hs.contains t with|true=> .Gn y|false=> .box y)|none=> .box y)
 | .alloc t=>do some (.alloc (<-w4 P t))
 | .load t p=>do some (.load (<-vk P t) (<-bH p))
 | .store t p x=>do some (.store (<-P.info? t).size (<-bH p) (<-bH x))
 | .build t parts=>
  match P.underlying t with
  |some (.struct fields)=>do
   let z <-w4 P t
   let places <-fields.toList.mapM (λf=>(P.info? f.type).map λi=>(f.offset,i.size))
   some (.build z (<-yq (λi=>places[i]?) parts.toList))
  |some (.array _ e)=>do
   let z <-w4 P t
   let i <-P.info? e
   some (.build z (<-yq (λj=>some (j*i.size,i.size)) parts.toList))
  |_=>none
 | .buildSlice t len parts=>
  match P.underlying t with
  |some (.slice e)=>do
   let i <-P.info? e
   let z <-w4 P e
   let ps <-parts.toList.mapM λp=>(bH p.2).map λy=>(p.1,y)
   if len*i.size<=16777216/\0<i.size/\len<=maxLen then some (.Rl (match o.dst with|some t=>hs.contains t|none=>true) e i.size (replicate len z) ps)else none
  |_=>none
 | .fieldAddr s x f=>
  match P.underlying s with
  |some (.struct fields)=>do
   let fd <-fields[f]?
   let i <-P.info? fd.type
   if i.size=0 then none else some (.Cb fd.offset (<-bH x))
  |_=>none
 | .indexAddr t x i=>
  match P.underlying t with
  |some (.slice e)=>do some (.uo (<-P.info? e).size (<-bH x) (<-bH i))
  |_=>none
 | .binOp op t x y _=>
  match P.underlying t with
  |some (.struct fs)=>
   match fs.toList with
   |[f,g]=>
    match P.underlying f.type,P.underlying g.type with
    |some (.int _),some .string=>
     if f.offset=0/\g.offset=1/\f.name≠ "_"/\g.name≠ "_"/\P.stoodInHeld t=false/\P.eqGuardType P.depth t=false then
      match op with
      | .eql=>do some (.mu false (<-bH x) (<-bH y))
      | .neq=>do some (.mu true (<-bH x) (<-bH y))
      |_=>none
     else none
    |_,_=>
     match BM P 64 t with
     |some ks=>
      if P.eqGuardType P.depth t=false then
       match op with
       | .eql=>do some (.G4 false ks (<-bH x) (<-bH y))
       | .neq=>do some (.G4 true ks (<-bH x) (<-bH y))
       |_=>none
      else none
     |none=>none
   |_=>
    match BM P 64 t with
    |some ks=>
     if P.eqGuardType P.depth t=false then
      match op with
      | .eql=>do some (.G4 false ks (<-bH x) (<-bH y))
      | .neq=>do some (.G4 true ks (<-bH x) (<-bH y))
      |_=>none
     else none
    |none=>none
  |some (.slice _)=>
   match y with
   | .const (.slice none 0 0)=>
    match op with
    | .eql=>do some (.As false (<-bH x))
    | .neq=>do some (.As true (<-bH x))
    |_=>none
   |_=>none
  |some .bool=>
   match op with
   | .eql=>do some (.KB false (<-bH x) (<-bH y))
   | .neq=>do some (.KB true (<-bH x) (<-bH y))
   |_=>none
  |_=>do some (.bin op (<-bH x) (<-bH y))
 | .unOp .not _ x=>do some (.not (<-bH x))
 | .convert src dst x=>
  match P.underlying src,P.underlying dst with
  |some (.int _),some (.int k)=>do some (.conv k (<-bH x))
  |_,_=>none
 | .index t x i=>
  match P.underlying t with
  |some (.array len e)=>do some (.Gr e (<-vk P e) len (<-P.info? e).size (<-bH x) (<-bH i))
  |_=>none
 | .lookup t m x ok=>none
 | .nilCheck x=>do some (.B4 (<-bH x))
 | .extract x i=>do some (.Gj i (<-bH x))
 | .makeFunc (.func f) first caps=>if first.size=0 then do some (.MH f (<-caps.toList.mapM bH))else if caps.size=0 then do some (.MI f (<-first.toList.mapM bH))else none
 | .makeSlice t l c=>
  match P.underlying t with
  |some (.slice e)=>do
   let i <-P.info? e
   if 0<i.size then some (.Pb e i.size i.bytes (<-w4 P e) (<-bH l) (<-bH c))else none
  |_=>none
 | .slice t x lo hi none=>
  match P.underlying t with
  |some (.slice e)=>do
   let i <-P.info? e
   some (.Jw i.size (<-bH x) (<-lo.mapM bH) (<-hi.mapM bH))
  |_=>none
 | .call {callee:= .value f,args,..}=>do
  let xs <-args.toList.mapM bH
  match f with
  | .func f=>some (.call f xs)
  |_=>some (.uw (<-bH f) xs)
 | .call {callee:= .builtin b,args,argTypes}=>
  match b,args.toList,argTypes.toList with
  | .len,[x],[t]=>
   match P.underlying t with
   |some .string=>do some (.len true (<-bH x))
   |some (.slice _)=>do some (.len false (<-bH x))
   |_=>none
  | .append,[s,x],[t,t']=>
   match P.underlying t with
   |some (.slice e)=>do
    let i <-P.info? e
    let z <-i.zero
    if t=t'/\z.cells.size=i.size/\0<i.size then some (.cz (aez hs o) e i.size i.bytes (<-bH s) (<-bH x))else none
   |_=>none
  | .clear,[x],[t]=>
   match P.underlying t with
   |some (.slice e)=>do
    let i <-P.info? e
    some (.clear i.size (<-w4 P e) (<-bH x))
   |_=>none
  | .min,[x,y],_=>do some (.we false (<-bH x) (<-bH y))
  | .max,[x,y],_=>do some (.we true (<-bH x) (<-bH y))
  |_,_,_=>none
 | .field t x i=>
  match P.underlying t with
  |some (.struct fs)=>
   match fs[i]? with
   |some f=>do some (.MP (<-vk P f.type) f.offset (<-bH x))
   |none=>none
  |_=>none
 |_=>none
end
section
open Go.RowKit
def Mc(recv:Bool)(rb:Nat)(X:Nat->Prop)(b:Nat):Prop:=(recv=true/\b=rb)\/X b
def Enters(P:Program)(f:FuncId):Prop:=∃fn,P.funcs[f]?=some fn/\fn.body.isSome=true/\(fn.name== "runtime.NumGoroutine")=false
def vz(recv:Bool)(rb:Nat):List Value:=if recv then[.pointer (some ⟨rb,0,none⟩)]else[]
def Zd(recv:Bool)(rb:Nat)(X:Nat->Prop)(w:World)(r:PV)(cs':List PV)(e:Ending)(w':World):Prop:=
 ∃(v:Value) (rvs':List Value),e= .returned v/\bp w' (Mc recv rb X) ed r v/\(recv=true->(∃T,w'.heap[rb]?=some (.cells rvs'.toArray T (0,0)))/\bo w' (Mc recv rb X) ed cs' rvs')/\
  Fr (if recv then some rb else none) w w'
def LM(P:Program)(f:FuncId)(pos:Nat)(recv:Bool)(cs args:List PV)(r:PV)(cs':List PV):Prop:=
 ∀(w:World) (X:Nat->Prop) (_:xG w X) (rb:Nat) (T:TypeId) (rvs vs:List Value),
  (recv=true->w.heap[rb]?=some (.cells rvs.toArray T (0,0))/\bo w (Mc recv rb X) ed cs rvs/\¬gb rb)->bo w (Mc recv rb X) ed args vs->
  Calls P f (jF pos (vz recv rb) vs).toArray w (Zd recv rb X w r cs')
abbrev Con(P:Program)(f:FuncId):=LM P f 0
def TX{α:Type}(p:Nat)(l:List α):jF p [] l=l:=by simp[jF]
def aaS(P:Program)(f:FuncId)(args cs:List PV):Prop:=
 ∀(w:World) (X:Nat->Prop) (_:xG w X) (vs:List Value),bo w X ed args vs->
  Calls P f vs.toArray w λe w'=>∃(b:Nat) (rvs:List Value) (T:TypeId),e= .returned (.pointer (some ⟨b,0,none⟩))/\w.heap.size<=b/\w'.heap[b]?=some (.cells rvs.toArray T (0,0))/\bo w' (λq=>X q\/q=b) ed cs rvs/\Fr none w w'
def AH(w:World)(M:Nat->Prop)(e k:Nat)(v:Value)(es:List (List PV)):Prop:=
 ∃(vs:List Value),w.ownsRow 0 e k v es.length vs/\(∀x∈es,x.length=k)/\bo w M ed es.flatten vs
def Mv(v:Value)(X:Nat->Prop)(b:Nat):Prop:=cd v=some b\/X b
def aaR(P:Program)(f:FuncId)(e k:Nat)(es:List (List PV))(args:List PV)(r:PV)(es':List (List PV)):Prop:=
 ∀(w:World) (X:Nat->Prop) (_:xG w X) (v:Value) (vs:List Value),(∀b,cd v=some b->¬X b/\¬gb b)->AH w (Mv v X) e k v es->bo w (Mv v X) ed args vs->
  Calls P f (v::vs).toArray w λen w'=>∃u,en= .returned u/\bp w' (Mv v X) ed r u/\AH w' (Mv v X) e k v es'/\Fr (cd v) w w'
def Od(P:Program)(f:FuncId)(e k:Nat)(es:List (List PV))(args:List PV)(es':List (List PV)):Prop:=
 ∀(w:World) (X:Nat->Prop) (_:xG w X) (v:Value) (vs:List Value),(∀b,cd v=some b->¬X b/\¬gb b)->AH w (Mv v X) e k v es->bo w (Mv v X) ed args vs->
  Calls P f (v::vs).toArray w λen w'=>∃u,en= .returned u/\AH w' (Mv u X) e k u es'/\(∀b,cd u=some b->cd v=some b\/w.heap.size<=b)/\Fr (cd v) w w'
def Xy(P:Program)(f:FuncId)(args:List PV)(e k:Nat)(es':List (List PV)):Prop:=
 ∀(w:World) (X:Nat->Prop) (_:xG w X) (vs:List Value),bo w X ed args vs->
  Calls P f vs.toArray w λen w'=>∃u,en= .returned u/\AH w' (Mv u X) e k u es'/\(∀b,cd u=some b->w.heap.size<=b)/\Fr none w w'
structure Fr2 (b c:Nat) (w0 w:World):Prop where
 os:w.os=w0.os
 tape:w.tape=w0.tape
 output:w.output=w0.output
 size:w0.heap.size<=w.heap.size
 block:∀k,k<w0.heap.size->k≠b->k≠c->w.heap[k]?=w0.heap[k]?
 drawn:DL w0 w
def IH(P:Program)(f:FuncId)(m:Model):Prop:=
 match m.rk with
 | .no=>True
 | .bor e k=>∀es args r es',m.rm es args=some (r,es')->aaR P f e k es args r es'
 | .Ri e k=>∀es args r es',m.rm es args=some (r,es')->Od P f e k es args es'
 | .fre e k=>∀args r es',m.rm [] args=some (r,es')->Xy P f args e k es'
def acK(P:Program)(f:FuncId)(m:Model):Prop:=
 Enters P f/\(m.fresh=false->∀cs args r cs',m.m cs args=some (r,cs')->LM P f m.pos m.recv cs args r cs')/\(m.fresh=true->∀args r cs,m.m [] args=some (r,cs)->aaS P f args cs)/\IH P f m/\(m.ro=true->∀cs args r cs',m.m cs args=some (r,cs')->cs'=cs)
def pD(P:Program)(Γ:qv):Prop:=∀f m,Γ f=some m->acK P f m
section
variable {P : Program} {E : En} {S : St} {a : Act} {w : World} {L : Nat -> Value}
def MU{M:Nat->Prop}{G:Gh}{v:Value}{x:PV}(h:G6 v=some x):bp w M G x v:=by unfold G6 at h;split at h<;>first|(injection h with h;subst h;first|exact .bool _|exact .int _ _|exact .str _|exact .lL|exact .eG|exact .any _)|cases h
def Rel.jL(h:Rel E S a w L){x:Operand}{y:bB}(hc:bH x=some y):bp w (bl E S L) (S.gh L) (y.val S) (a.eval x):=by
 cases x with
 |tmp t=>simp only[bH,Qf]at hc;subst hc;exact h.env t
 |const v=>simp only[bH,Qb]at hc;obtain⟨p,hp,rfl⟩:=hc;exact MU hp
 |global g=>simp[bH]at hc
 |func f=>simp only[bH,Qf]at hc;subst hc;exact .bI f [] [] rfl (λi x v hx _=>by simp at hx)
def Rel.dS(h:Rel E S a w L):∀{xs:List Operand} {ys:List bB},xs.mapM bH=some ys->bo w (bl E S L) (S.gh L) (ys.map (·.val S)) (xs.map a.eval)
 |[],ys,hc=>by simp at hc;subst hc;exact .nil
 |x::xs,ys,hc=>by simp only[Qq75,Qd,Qc,Option.pure_def,Qf]at hc;obtain⟨y,hy,zs,hzs,rfl⟩:=hc;exact .cons (h.jL hy) (h.dS hzs)
section
variable {M : Nat -> Prop} {G : Gh} {v : Value}
def bp.oJ{b:Bool}(h:bp w M G (.bool b) v):v= .bool b:=by cases h;rfl
def bp.jE{k:IntKind}{n:Int}(h:bp w M G (.int k n) v):v= .int k n:=by cases h;rfl
def bp.Bo{s:ByteArray}(h:bp w M G (.str s) v):v= .string s:=by cases h;rfl
def bp.ud(h:bp w M G .eG v):v= .slice none 0 0:=by cases h;rfl
def bp.plain{w':World}{M M':Nat->Prop}{G G':Gh}{y:PV}{v:Value}(hc:y.plain=true)(h:bp w M G y v):bp w' M' G' y v:=by
 induction h generalizing G' with
 |_=>first|(simp[PV.plain]at hc;done)|constructor
def bp.aa1(h:bp w M G .undef v):v=Go.undef:=by cases h;rfl
def bp.Gv{cs:List PV}(h:bp w M G (.eN cs) v):∃vs:List Value,v= .tuple vs.toArray/\bo w M G cs vs:=by cases h with|eN _ vs hl h=>exact⟨vs,rfl,hl,h⟩
def bp.tu{cs:List PV}(h:bp w M G (.agg cs) v):∃vs:List Value,v= .agg vs.toArray/\bo w M G cs vs:=by cases h with|agg _ vs hl h=>exact⟨vs,rfl,hl,h⟩
def bp.SY{f:FuncId}{cs:List PV}(h:bp w M G (.jz f cs) v):∃vs:List Value,v= .func (.func f) vs.toArray #[]/\bo w M G cs vs:=by cases h with|jz _ _ vs hl h=>exact⟨vs,rfl,hl,h⟩
def bp.xk{f:FuncId}{cs:List PV}(h:bp w M G (.bI f cs) v):∃vs:List Value,v= .func (.func f) #[] vs.toArray/\bo w M G cs vs:=by cases h with|bI _ _ vs hl h=>exact⟨vs,rfl,hl,h⟩
def bp.RY{cs:List PV}(h:bp w M G (.ref cs) v):∃(ad:Addr) (vs:List Value),v= .pointer (some ad)/\bo w M ed cs vs/\∀(i:Nat) (u:Value),vs[i]?=some u->w.cell? (ad.add i)=some u/\¬M ad.block:=by cases h with|ref _ ad vs hl hc h=>exact⟨ad,vs,rfl,⟨hl,h⟩,hc⟩
def bp.pP{id av off:Nat}(h:bp w M G (.ptr id av off) v)(hv:G.V id=av):id<G.N/\v= .pointer ((cd (G.L id)).map λb=>⟨b,off,none⟩):=by cases h with|ptr _ _ _ ad hN hV h=>exact⟨hN,by rw[h hv.symm]⟩
def bp.NW{id av k i off:Nat}(h:bp w M G (.fh id av k i off) v)(hv:G.V id=av):id<G.N/\v= .pointer ((cd (G.L id)).map λb=>⟨b,i*k+off,none⟩):=by cases h with|fh _ _ _ _ _ ad hN hV h=>exact⟨hN,by rw[h hv.symm]⟩
def bp.Bl{id av k lo n:Nat}(h:bp w M G (.view id av k lo n) v)(hv:G.V id=av):id<G.N/\∃a c,v= .slice a n c/\Xp (G.L id) k lo n a c:=by cases h with|view _ _ _ _ _ ad c hN hV h=>exact⟨hN,ad,c,rfl,h hv.symm⟩
def bp.n4{id av:Nat}(h:bp w M G (.own id av) v)(hv:G.V id=av):id<G.N/\v=G.L id:=by cases h with|own _ _ ad n c hN hV h=>exact⟨hN,h hv.symm⟩
def bp.GA{es:List (List PV)}(h:bp w M G (.sl es) v):(v= .slice none 0 0/\es=[])\/∃(ad:Addr) (c k:Nat) (vs:List Value),v= .slice (some ad) es.length c/\(∀e∈es,e.length=k)/\bo w M ed es.flatten vs/\
  (∀(i:Nat) (u:Value),vs[i]?=some u->w.cell? (ad.add i)=some u/\¬M ad.block)/\es.length<=c/\c<=maxLen:=by
 cases h with
 |sl _ ad c k vs hk hl hc h hn hm=>exact .inr ⟨ad,c,k,vs,rfl,hk,⟨hl,h⟩,hc,hn,hm⟩
 |slnil=>exact .inl ⟨rfl,rfl⟩
end
def St.fl(S:St)(wr:Option (Nat×gm)):St:={S with H:=match wr with|some (id,o)=>bU S.H id o|none=>S.H}
def Good(P:Program)(E:En)(S:St)(a:Act)(w:World)(o:Oper)(x:PV)(wr:Option (Nat×gm)):Prop:=
 ∃nx w' L' v,(execOp a.eval o).run P w= .ok nx w'/\(nx= .value v\/(nx= .skip/\v=undef))/\bp w' (bl E (S.fl wr) L') ((S.fl wr).gh L') x v/\Rel E (S.fl wr) a w' L'
def Good.pure{o:Oper}{x:PV}{v:Value}(h:Rel E S a w L)(hr:(execOp a.eval o).run P w= .ok (.value v) w)(hx:bp w (bl E S L) (S.gh L) x v):Good P E S a w o x none:=
 ⟨_,w,L,v,hr,.inl rfl,hx,h⟩
def Rel.ZN(h:Rel E S a w L){d:Option Nat}{x:PV}{v:Value}(hd:∀t,d=some t->E.can t)(hx:bp w (bl E S L) (S.gh L) x v):Rel E (S.cz d x none) (a.put d v) w L:=by
 cases d with
 |none=>exact h
 |some t=>exact h.put (hd t rfl) hx
def LJ(o:Oper):Prop:=∀c,o.op≠ .defer c
def Good.wp{o:Oper}{x:PV}{wr:Option (Nat×gm)}(h:Good P E S a w o x wr)(hnd:LJ o)(hd:∀t,o.dst=some t->E.can t){K:Act->World->Prop}{Q:Exit->Act->World->Prop}
  (hK:∀a' w' L',Rel E (S.cz o.dst x wr) a' w' L'->K a' w'):o.wpIn (WF E.rd) 0 P a w K Q:=by
 obtain⟨nx,w',L',v,hr,hn,hx,h'⟩:=h;have:=hK _ _ _ (show Rel E (S.cz o.dst x wr) (a.put o.dst v) w' L' from h'.ZN hd hx)
 unfold Oper.wpIn;rw[Oper.semAt_eq _ _ _ hnd,hr];rcases hn with rfl|⟨rfl,rfl⟩<;>exact⟨λ_ _=>trivial,this⟩
def XT{t:TypeId}{ad:Addr}{v:Value}(ht:vk P t=some none)(h:w.cell? ad=some v):(loadVar t ad).run P w= .ok v w:=by
 unfold vk at ht;split at ht
 ·simp at ht
 ·simp at ht
 ·rename_i d _ hu hd
  have:(isAgg t).run P w= .ok false w:=by unfold isAgg;rw[Sem.run_bind,run_underlying hd w];cases d<;>simp_all
  simp only[loadVar,Sem.run_bind,this,Result.andThen_ok];simp[load,Sem.run,h]
 ·cases ht
def XU{t:TypeId}{ad:Addr}{n:Nat}{vs:List Value}(ht:vk P t=some (some n))(hl:vs.length=n)(h:∀(i:Nat) (v:Value),vs[i]?=some v->w.cell? (ad.add i)=some v):
  (loadVar t ad).run P w= .ok (.agg vs.toArray) w:=by
 have hi:∃i,P.info? t=some i/\i.size=n:=by
  unfold vk at ht;split at ht
  ·simpa using ht
  ·simpa using ht
  ·simp at ht
  ·cases ht
 obtain⟨i,hi,hs⟩:=hi
 have:(isAgg t).run P w= .ok true w:=by
  unfold vk at ht;unfold isAgg;split at ht
  ·rename_i hu;rw[Sem.run_bind,run_underlying hu w];simp
  ·rename_i hu;rw[Sem.run_bind,run_underlying hu w];simp
  ·simp at ht
  ·cases ht
 have hl2:=run_loadCells_list (P:=P) w ad vs h;rw[hl]at hl2;simp only[loadVar,Sem.run_bind,this,Result.andThen_ok,sizeOf,typeInfo];simp[program,Sem.run,hi,hs,hl2]
def Ls{M:Nat->Prop}{G:Gh}{t:TypeId}{n:Option Nat}{ad:Addr}{cs:List PV}{vs:List Value}{x:PV}(ht:vk P t=some n)(hr:bo w M G cs vs)
  (hc:∀(i:Nat) (v:Value),vs[i]?=some v->w.cell? (ad.add i)=some v) (hx:vB n cs=some x):∃v,(loadVar t ad).run P w= .ok v w/\bp w M G x v:=by
 cases n with
 |none=>
  cases cs with
  |nil=>simp[vB]at hx
  |cons y ys=>simp only[vB,Qf]at hx;subst hx;obtain⟨v,us,rfl,h1,_⟩:=hr.cons_inv;exact⟨v,XT ht (by simpa[Addr.add]using hc 0 v (by simp)),h1⟩
 |some n=>
  simp only[vB]at hx;split at hx
  ·injection hx with hx
   subst hx;rename_i hn;refine⟨.agg (vs.take n).toArray,XU ht (by simp[hr.1];omega) (λi v hv=> ?_),?_⟩
   ·rw[Qq68]at hv;split at hv
    ·exact hc i v hv
    ·cases hv
   ·have:=hr.take n;exact .agg _ _ this.1 this.2
  ·cases hx
def Rel.rY(h:Rel E S a w L){id:Nat}{cs:List PV}(hid:id<S.N)(hc:(S.H id).c= .box cs):
  ∃(b:Nat) (cur:Array Value) (T:TypeId),L id= .pointer (some ⟨b,0,none⟩)/\w.heap[b]?=some (.cells cur T (0,0))/\bo w (bl E S L) (S.gh L) cs cur.toList/\(E.rb=some b\/E.w0.heap.size<=b):=by
 have:=h.obj id hid;rw[hc]at this;obtain⟨b,cur,T,h1,h2,h3,h4⟩:=this;exact⟨b,cur,T,h1,h2,h4,h3⟩
def rX{b:Nat}{cur:Array Value}{T:TypeId}(h:w.heap[b]?=some (.cells cur T (0,0))){i:Nat}{v:Value}(hv:cur.toList[i]?=some v):w.cell? ⟨b,i,none⟩=some v:=by simp[World.cell?,h];simpa using hv
def Rel.lx(h:Rel E S a w L){id:Nat}{e k:Nat}{es:List (List PV)}(hid:id<S.N)(hc:(S.H id).c= .row e k es):
  ∃(vs:List Value),w.ownsRow (fN E (L id)) e k (L id) es.length vs/\(∀x∈es,x.length=k)/\bo w (bl E S L) (S.gh L) es.flatten vs:=by
 have:=h.obj id hid;rw[hc]at this;exact this
def AB{α:Type}:∀(es:List (List α)) (k i:Nat) (e:List α),(∀x∈es,x.length=k)->es[i]?=some e->∀j,j<k->es.flatten[i*k+j]?=e[j]?
 |[],_,_,_,_,h,_,_=>by simp at h
 |x::xs,k,i,e,hk,h,j,hj=>by
  have hx:x.length=k:=hk x (by simp)
  cases i with
  |zero=>simp at h;subst h;simp only[List.flatten_cons,Nat.zero_mul,Nat.zero_add];rw[List.getElem?_append_left (by omega)]
  |succ i=>
   simp only[List.getElem?_cons_succ]at h;have:=AB xs k i e (λy hy=>hk y (by simp[hy])) h j hj
   simp only[List.flatten_cons];have e1:(i+1)*k=i*k+k:=by rw[Qq73];omega
   rw[List.getElem?_append_right (by omega),<-this]
   congr 1;omega
def nk{α:Type}(es:List (List α))(k:Nat)(hk:∀x∈es,x.length=k):es.flatten.length=es.length*k:=by
 induction es with
 |nil=>simp
 |cons x xs ih=>
  have hx:x.length=k:=hk x (by simp)
  have:=ih (λy hy=>hk y (by simp[hy]))
  simp only[List.flatten_cons,QB,QE,hx,this,Qq73];omega
end
end
section
open Go.RowKit
section
variable {P : Program} {E : En} {S : St} {a : Act} {w : World} {L : Nat -> Value} {o : Oper} {x : PV} {wr : Option (Nat × gm)} {Γ : qv} {nid : Nat}
def bZ{p q:PV×Option (Nat×gm)}(h:some p=some q):p.1=q.1/\p.2=q.2:=by injection h with h;subst h;exact⟨rfl,rfl⟩
def ae1(h:Rel E S a w L){y:Operand}{y':bB}(ho:o.op= .move y\/o.op= .assign y)(hy:bH y=some y'):Good P E S a w o (y'.val S) none:=by refine Good.pure h ?_ (h.jL hy);rcases ho with ho|ho<;>simp[execOp,ho]
def aii(h:Rel E S a w L){c y z:Operand}{c' y' z':bB}(ho:o.op= .pick c y z)(hc:bH c=some c')(hy:bH y=some y')(hz:bH z=some z')
  (he:exec Γ nid S (.pick c' y' z')=some (x,wr)):Good P E S a w o x wr:=by
 have rc:=h.jL hc;simp only[exec]at he;split at he
 ·rename_i e;obtain⟨rfl,rfl⟩:=bZ he;rw[e]at rc;have hv:=rc.oJ;exact Good.pure (v:=a.eval y) h (by simp[execOp,ho,asBool,hv]) (h.jL hy)
 ·rename_i e;obtain⟨rfl,rfl⟩:=bZ he;rw[e]at rc;have hv:=rc.oJ;exact Good.pure (v:=a.eval z) h (by simp[execOp,ho,asBool,hv]) (h.jL hz)
 ·cases he
def ajx(h:Rel E S a w L){y:Operand}{y':bB}{t:TypeId}(ho:o.op= .unOp .not t y)(hy:bH y=some y')(he:exec Γ nid S (.not y')=some (x,wr)):Good P E S a w o x wr:=by
 have r:=h.jL hy;simp only[exec]at he;split at he
 ·rename_i b e;obtain⟨rfl,rfl⟩:=bZ he;rw[e]at r;have hv:=r.oJ;exact Good.pure (v:= .bool !b) h (by simp[execOp,ho,Op.unary,hv]) (.bool _)
 ·cases he
def aim(h:Rel E S a w L){y:Operand}{y':bB}{s t:TypeId}{k k0:IntKind}(ho:o.op= .convert s t y)(hs:P.underlying s=some (.int k0))(ht:P.underlying t=some (.int k))(hy:bH y=some y')
  (he:exec Γ nid S (.conv k y')=some (x,wr)):Good P E S a w o x wr:=by
 have r:=h.jL hy;simp only[exec]at he;split at he
 ·rename_i k1 n e;obtain⟨rfl,rfl⟩:=bZ he;rw[e]at r;have hv:=r.jE;exact Good.pure (v:= .int k (k.wrap n)) h (by simp[execOp,ho,convert,run_underlying hs,run_underlying ht,Conv.intToInt,hv]) (.int _ _)
 ·cases he
def ail(h:Rel E S a w L){y:Operand}{y':bB}{i:Nat}(ho:o.op= .extract y i)(hy:bH y=some y')(he:exec Γ nid S (.Gj i y')=some (x,wr)):Good P E S a w o x wr:=by
 have r:=h.jL hy;simp only[exec]at he;split at he
 ·rename_i cs e;simp only[Qb]at he;obtain⟨z,hz,he⟩:=he;injection he with h1 h2
  subst h1 h2;rw[e]at r;obtain⟨vs,hv,hr⟩:=r.Gv;obtain⟨u,hu,hx⟩:=hr.get hz;exact Good.pure (v:=u) h (by simp[execOp,ho,Instr.extract,hv,hu]) hx
 ·cases he
def ajz(h:Rel E S a w L){f:FuncId}{first caps:Array Operand}{cs:List bB}(ho:o.op= .makeFunc (.func f) first caps)(h0:first.size=0)(hc:caps.toList.mapM bH=some cs)
  (he:exec Γ nid S (.MH f cs)=some (x,wr)):Good P E S a w o x wr:=by
 simp only[exec]at he;obtain⟨rfl,rfl⟩:=bZ he;have r:=h.dS hc;have h1:first=#[]:=Array.eq_empty_of_size_eq_zero h0
 subst h1;refine Good.pure (v:= .func (.func f) #[] (caps.toList.map a.eval).toArray) h ?_ (.bI f _ _ r.1 r.2);have e:caps.map a.eval=(caps.toList.map a.eval).toArray:=by rw[<-Array.toList_map,Array.toArray_toList]
 simp[execOp,ho,Instr.makeFunc,e]
def ajA(h:Rel E S a w L){f:FuncId}{first caps:Array Operand}{cs:List bB}(ho:o.op= .makeFunc (.func f) first caps)(h0:caps.size=0)(hc:first.toList.mapM bH=some cs)
  (he:exec Γ nid S (.MI f cs)=some (x,wr)):Good P E S a w o x wr:=by
 simp only[exec]at he;obtain⟨rfl,rfl⟩:=bZ he;have r:=h.dS hc;have h1:caps=#[]:=Array.eq_empty_of_size_eq_zero h0;subst h1;refine Good.pure (v:= .func (.func f) (first.toList.map a.eval).toArray #[]) h ?_ (.jz f _ _ r.1 r.2)
 have e:first.map a.eval=(first.toList.map a.eval).toArray:=by rw[<-Array.toList_map,Array.toArray_toList]
 simp[execOp,ho,Instr.makeFunc,e]
def toList_eq_iff(a b:ByteArray):(a.toList==b.toList)=decide (a=b):=by
 have hl:∀c:ByteArray,c.toList=c.data.toList:=λc=>Lib.toList_data c
 rw[hl,hl,QW];simp only[beq_iff_eq,Qi];constructor
 ·intro h;have:a.data=b.data:=Array.toList_inj.1 h;cases a;cases b;simp_all
 ·rintro rfl;rfl
def Zs{M:Nat->Prop}{G:Gh}{op:BinOp}{t:TypeId}{k:IntKind}{p q:Int}{r:PV}(hb:KO op k p q=some r)(hs1:op≠ .shl)(hs2:op≠ .shr):
  ∃v,(binOp op t (.int k p) (.int k q)).run P w= .ok v w/\bp w M G r v:=by
 cases op<;>simp only[KO]at hb
 case shl=>exact absurd rfl hs1
 case shr=>exact absurd rfl hs2
 case quo=>
  split at hb
  ·cases hb
  ·rename_i hq;injection hb with hb;subst hb;exact⟨.int k (k.wrap (p.tdiv q)),by simp[binOp,Op.intDiv,hq],.int _ _⟩
 case rem=>
  split at hb
  ·cases hb
  ·rename_i hq;injection hb with hb;subst hb;exact⟨.int k (p.tmod q),by simp[binOp,Op.intDiv,hq],.int _ _⟩
 case andNot=>injection hb with hb;subst hb;exact⟨.int k (k.wrap ((BitVec.ofInt k.bits p&&& ~~~ BitVec.ofInt k.bits q).toNat)),by simp only[binOp,ne_eq,not_true_eq_false,Qu,Op.intBits,Sem.run_pure],.int _ _⟩
 case and=>injection hb with hb;subst hb;exact⟨_,by simp only[binOp,ne_eq,not_true_eq_false,Qu,Op.intBits];rfl,.int _ _⟩
 case or=>injection hb with hb;subst hb;exact⟨_,by simp only[binOp,ne_eq,not_true_eq_false,Qu,Op.intBits];rfl,.int _ _⟩
 case xor=>injection hb with hb;subst hb;exact⟨_,by simp only[binOp,ne_eq,not_true_eq_false,Qu,Op.intBits];rfl,.int _ _⟩
 all_goals (injection hb with hb;subst hb)
 all_goals exact⟨_,by simp only[binOp,ne_eq,not_true_eq_false,Qu,Op.intArith,Op.intCmp];rfl,by first|exact .int _ _|exact .bool _⟩
def ajE(h:Rel E S a w L){y z:Operand}{y' z':bB}{op:BinOp}{t t2:TypeId}(ho:o.op= .binOp op t y z t2)(hy:bH y=some y')(hz:bH z=some z')
  (he:exec Γ nid S (.bin op y' z')=some (x,wr)):Good P E S a w o x wr:=by
 have ry:=h.jL hy;have rz:=h.jL hz;simp only[exec,Qb]at he;obtain⟨r,hb,he⟩:=he;injection he with h1 h2
 subst h1 h2;unfold LG at hb;split at hb
 ·rename_i k p k' q e1 e2;rw[e1]at ry;rw[e2]at rz;have hv:=ry.jE;have hu:=rz.jE;have hg:∀op,(eqGuard op t y z (.int k p) (.int k' q)).run P w= .ok () w:=by intro op;cases op<;>simp[eqGuard]
  split at hb
  ·split at hb
   ·cases hb
   ·rename_i hq;injection hb with hb
    subst hb;exact Good.pure (v:=_) h (by simp[execOp,ho,hv,hu,hg,binOp,Op.shift,hq]) (.int _ _)
  ·split at hb
   ·cases hb
   ·rename_i hq;injection hb with hb
    subst hb;exact Good.pure (v:=_) h (by simp[execOp,ho,hv,hu,hg,binOp,Op.shift,hq]) (.int _ _)
  ·rename_i hs1 hs2;split at hb
   ·rename_i hk;subst hk;obtain⟨v,hrun,hx⟩:=Zs (P:=P) (w:=w) (t:=t) (M:=bl E S L) (G:=S.gh L) hb hs1 hs2;exact Good.pure (v:=v) h (by simp[execOp,ho,hv,hu,hg,hrun]) hx
   ·cases hb
 ·rename_i p q e1 e2;rw[e1]at ry;rw[e2]at rz;have hv:=ry.Bo;have hu:=rz.Bo;have hg:∀op,(eqGuard op t y z (.string p) (.string q)).run P w= .ok () w:=by intro op;cases op<;>simp[eqGuard]
  cases op<;>simp only[Ro]at hb<;>
   first
   |(injection hb with hb;subst hb;exact Good.pure (v:=_) h (by first|(simp only[execOp,ho,hv,hu,Sem.run_bind,hg,binOp,Op.stringOp,toList_eq_iff,Sem.run_pure,Result.andThen_ok];done)|(simp only[execOp,ho,hv,hu,Sem.run_bind,hg,binOp,Op.stringOp,toList_eq_iff,Sem.run_pure,Result.andThen_ok];rfl)) (.bool _))
   |cases hb
 ·cases hb
end
end
section
open Go.RowKit
section
variable {P : Program} {E : En} {S : St} {a : Act} {w : World} {L : Nat -> Value} {o : Oper} {x : PV} {wr : Option (Nat × gm)} {Γ : qv} {nid : Nat}
def run_load{t:TypeId}{y:Operand}{ad:Addr}{v:Value}(ho:o.op= .load t y)(hv:a.eval y= .pointer (some ad))(hr:(loadVar t ad).run P w= .ok v w):(execOp a.eval o).run P w= .ok (.value v) w:=by simp[execOp,ho,hv,Instr.loadAt,Instr.sureAddr,hr]
def add_mid(b o j:Nat):(⟨b,o,none⟩:Addr).add j=⟨b,o+j,none⟩:=Addr.add_mid b o j
def gX{α:Type}{l:List α}{n i:Nat}{v:α}(h:(l.drop n)[i]?=some v):l[n+i]?=some v:=by rwa [List.getElem?_drop]at h
def aij(h:Rel E S a w L){y:Operand}{y':bB}{t:TypeId}{n:Option Nat}(ho:o.op= .load t y)(ht:vk P t=some n)(hy:bH y=some y')(he:exec Γ nid S (.load n y')=some (x,wr)):Good P E S a w o x wr:=by
 have r:=h.jL hy;simp only[exec]at he;split at he
 ·rename_i id av off e;rw[e]at r;split at he
  ·rename_i hver;split at he
   ·rename_i cs hc;simp only[Qb]at he;obtain⟨z,hz,he⟩:=he;injection he with h1 h2
    subst h1 h2;obtain⟨hN,hv⟩:=r.pP (show(S.gh L).V id=av from hver)
    obtain⟨b,cur,T,hL,hh,hr,_⟩:=h.rY hN hc;rw[show(S.gh L).L id=L id from rfl,hL]at hv
    simp only[cd,Qe]at hv;obtain⟨v,hrun,hx⟩:=Ls (P:=P) (ad:=⟨b,off,none⟩) ht (hr.drop off) (λi u hu=>by rw[add_mid];exact rX hh (gX hu)) hz
    exact Good.pure h (run_load ho hv hrun) hx
   ·cases he
  ·cases he
 ·rename_i id av k i off e;rw[e]at r;split at he
  ·rename_i hver;split at he
   ·rename_i e0 k' es hc;split at he
    ·rename_i hk;subst hk;split at he
     ·rename_i el hel;simp only[Qb]at he;obtain⟨z,hz,he⟩:=he;injection he with h1 h2
      subst h1 h2;obtain⟨hN,hv⟩:=r.NW (show(S.gh L).V id=av from hver)
      obtain⟨vs,hown,hk,hr⟩:=h.lx hN hc;rw[show(S.gh L).L id=L id from rfl]at hv
      have hlen:el.length=k:=hk el (Q8 hel)
      have hsub:bo w (bl E S L) (S.gh L) el ((vs.drop (i*k)).take k):=by
       have h1:=(hr.drop (i*k)).take k
       have h2:(es.flatten.drop (i*k)).take k=el:=by
        apply List.ext_getElem?;intro j;rw[Qq68];split
        ·rename_i hj;rw[List.getElem?_drop,AB es k i el hk hel j hj]
        ·rw[Qq72 (by omega)]
       rw[h2]at h1;exact h1
      rcases hown.2 with⟨hL,h0⟩|⟨g,cap,cur,hL,hb1,hh,_,_,_,htake⟩
      ·have:es=[]:=Qq67 h0;subst this;simp at hel
      ·rw[hL]at hv;simp only[cd,Qe]at hv
       obtain⟨v,hrun,hx⟩:=Ls (P:=P) (ad:=⟨g,i*k+off,none⟩) ht (hsub.drop off) (λj u hu=>by
        rw[add_mid];refine rX hh ?_;have h1:=gX hu;rw[Qq68]at h1;split at h1
        ·rw[List.getElem?_drop,<-htake,Qq68]at h1;split at h1
         ·rw[<-h1];congr 1;omega
         ·cases h1
        ·cases h1) hz
       exact Good.pure h (run_load ho hv hrun) hx
     ·cases he
    ·cases he
   ·cases he
  ·cases he
 ·rename_i cs e;rw[e]at r;simp only[Qb]at he;obtain⟨z,hz,he⟩:=he;injection he with h1 h2
  subst h1 h2;obtain⟨ad,vs,hv,hr,hc⟩:=r.RY;obtain⟨v,hrun,hx⟩:=Ls (P:=P) (ad:=ad) ht hr (λi u hu=>(hc i u hu).1) hz
  exact Good.pure h (run_load ho hv hrun) (hx.mono (cZ.of λ_ hm=>hm) (ed.le _))
 ·cases he
def add_add(ad:Addr)(i j:Nat):(ad.add i).add j=ad.add (i+j):=by
 unfold Addr.add
 by_cases hi:i=0<;>by_cases hj:j=0<;>simp[hi,hj,Nat.add_assoc]
def ac6{M:Nat->Prop}{G:Gh}{cs:List PV}{ad:Addr}{vs:List Value}(hr:bo w M ed cs vs)(hc:∀(i:Nat) (u:Value),vs[i]?=some u->w.cell? (ad.add i)=some u/\¬M ad.block)(n:Nat):
  bp w M G (.ref (cs.drop n)) (.pointer (some (ad.add n))):=by
 have h1:=hr.drop n;exact .ref _ _ _ h1.1 (λi u hu=>by rw[add_add,KN];exact hc _ u (gX hu)) h1.2
def RU{fd:Field}{i:TypeInfo}(hi:P.info? fd.type=some i)(h0:i.size≠0)(ad:Addr):(fieldPlace ad fd).run P w= .ok (ad.add fd.offset) w:=by simp[fieldPlace,sizeOf,typeInfo,hi,h0]
def JG{s:TypeId}{y:Operand}{f:Nat}{fields:Array Field}{fd:Field}{i:TypeInfo}{ad:Addr}(ho:o.op= .fieldAddr s y f)(hs:P.underlying s=some (.struct fields))(hf:fields[f]?=some fd)
  (hi:P.info? fd.type=some i) (h0:i.size≠0) (hv:a.eval y= .pointer (some ad)):(execOp a.eval o).run P w= .ok (.value (.pointer (some (ad.add fd.offset)))) w:=by
 simp[execOp,ho,Instr.fieldAt,run_underlying hs,hf,hv,Instr.sureAddr,RU hi h0]
def bp.abn{M:Nat->Prop}{G:Gh}{id av off:Nat}{ad:Addr}(n:Nat)(h:bp w M G (.ptr id av off) (.pointer (some ad))):bp w M G (.ptr id av (off+n)) (.pointer (some (ad.add n))):=by
 cases h with
 |ptr _ _ _ _ hN hV h=>
  refine .ptr _ _ _ _ hN hV (λe=> ?_)
  have:=h e
  cases hb:cd (G.L id)with
  |none=>rw[hb]at this;cases this
  |some b=>rw[hb]at this;simp only[Qe,Qf]at this ⊢;rw[this,add_mid]
def bp.aal{M:Nat->Prop}{G:Gh}{id av k i off:Nat}{ad:Addr}(n:Nat)(h:bp w M G (.fh id av k i off) (.pointer (some ad))):bp w M G (.fh id av k i (off+n)) (.pointer (some (ad.add n))):=by
 cases h with
 |fh _ _ _ _ _ _ hN hV h=>
  refine .fh _ _ _ _ _ _ hN hV (λe=> ?_)
  have:=h e
  cases hb:cd (G.L id)with
  |none=>rw[hb]at this;cases this
  |some b=>rw[hb]at this;simp only[Qe,Qf]at this ⊢;rw[this,add_mid,Nat.add_assoc]
def Rel.yO(h:Rel E S a w L){id av off:Nat}{v:Value}{cs:List PV}(r:bp w (bl E S L) (S.gh L) (.ptr id av off) v)(hver:(S.H id).av=av)(hc:(S.H id).c= .box cs):
  ∃b,v= .pointer (some ⟨b,off,none⟩)/\L id= .pointer (some ⟨b,0,none⟩):=by
 obtain⟨hN,hv⟩:=r.pP (show(S.gh L).V id=av from hver)
 obtain⟨b,cur,T,hL,hh,hr,_⟩:=h.rY hN hc;rw[show(S.gh L).L id=L id from rfl,hL]at hv
 exact⟨b,hv,hL⟩
def Rel.acb(h:Rel E S a w L){id av k i off:Nat}{v:Value}{e0 k':Nat}{es:List (List PV)}(r:bp w (bl E S L) (S.gh L) (.fh id av k i off) v)(hver:(S.H id).av=av)(hc:(S.H id).c= .row e0 k' es)(hi:i<es.length):
  ∃b n cap,v= .pointer (some ⟨b,i*k+off,none⟩)/\L id= .slice (some ⟨b,0,none⟩) n cap:=by
 obtain⟨hN,hv⟩:=r.NW (show(S.gh L).V id=av from hver)
 obtain⟨vs,hown,hk,hr⟩:=h.lx hN hc;rcases hown.2 with⟨hL,h0⟩|⟨g,cap,cur,hL,hb1,hh,_⟩
 ·omega
 ·rw[show(S.gh L).L id=L id from rfl,hL]at hv
  exact⟨g,_,cap,hv,hL⟩
def agv(h:Rel E S a w L){s:TypeId}{y:Operand}{y':bB}{f:Nat}{fields:Array Field}{fd:Field}{i:TypeInfo}(ho:o.op= .fieldAddr s y f)(hs:P.underlying s=some (.struct fields))(hf:fields[f]?=some fd)
  (hi:P.info? fd.type=some i) (h0:i.size≠0) (hy:bH y=some y') (he:exec Γ nid S (.Cb fd.offset y')=some (x,wr)):Good P E S a w o x wr:=by
 have r:=h.jL hy;simp only[exec]at he;split at he
 ·rename_i id av off e;rw[e]at r;split at he
  ·rename_i hver;split at he
   ·rename_i cs hc;obtain⟨rfl,rfl⟩:=bZ he;obtain⟨b,hv,_⟩:=h.yO r hver hc;rw[hv]at r;exact Good.pure h (JG ho hs hf hi h0 hv) (r.abn _)
   ·cases he
  ·cases he
 ·rename_i id av k j off e;rw[e]at r;split at he
  ·rename_i hver;split at he
   ·rename_i hc;split at he
    ·rename_i hj;obtain⟨rfl,rfl⟩:=bZ he;obtain⟨b,n,cap,hv,_⟩:=h.acb r hver hc hj;rw[hv]at r;exact Good.pure h (JG ho hs hf hi h0 hv) (r.aal _)
    ·cases he
   ·cases he
  ·cases he
 ·rename_i cs e;rw[e]at r;obtain⟨rfl,rfl⟩:=bZ he;obtain⟨ad,vs,hv,hr,hc⟩:=r.RY;exact Good.pure h (JG ho hs hf hi h0 hv) (ac6 hr hc _)
 ·cases he
def agt(h:Rel E S a w L){y:Operand}{y':bB}(ho:o.op= .nilCheck y)(hy:bH y=some y')(he:exec Γ nid S (.B4 y')=some (x,wr)):Good P E S a w o x wr:=by
 have r:=h.jL hy;simp only[exec]at he;split at he
 ·rename_i id av off e;rw[e]at r;split at he
  ·rename_i hver;split at he
   ·rename_i cs hc;obtain⟨rfl,rfl⟩:=bZ he;obtain⟨b,hv,_⟩:=h.yO r hver hc;exact Good.pure (v:=a.eval y) h (by simp[execOp,ho,hv]) r
   ·cases he
  ·cases he
 ·rename_i cs e;rw[e]at r;obtain⟨rfl,rfl⟩:=bZ he;obtain⟨ad,vs,hv,hr,hc⟩:=r.RY;exact Good.pure (v:=a.eval y) h (by simp[execOp,ho,hv]) r
 ·rename_i f cs e;rw[e]at r;obtain⟨rfl,rfl⟩:=bZ he;obtain⟨vs,hv,hr⟩:=r.xk;exact Good.pure (v:=a.eval y) h (by simp[execOp,ho,hv]) r
 ·cases he
def Rel.K5(h:Rel E S a w L){id k lo n:Nat}{ad:Option Addr}{c:Nat}{e0 k':Nat}{es:List (List PV)}(hN:id<S.N)(hc:(S.H id).c= .row e0 k' es)(hat:Xp (L id) k lo n ad c):lo+n<=es.length:=by
 obtain⟨a0,m0,c0,hl,h1,_⟩:=hat;obtain⟨vs,hown,hk,hr⟩:=h.lx hN hc;rcases hown.2 with⟨hL,h0⟩|⟨g,cap,cur,hL,_⟩
 ·rw[hL]at hl;injection hl with e1 e2 e3;omega
 ·rw[hL]at hl;injection hl with e1 e2 e3;omega
def JF{t e:TypeId}{y z:Operand}{ad:Addr}{n c:Nat}{i:TypeInfo}{k:IntKind}{j:Int}(ho:o.op= .indexAddr t y z)(ht:P.underlying t=some (.slice e))(hi:P.info? e=some i)
  (hv:a.eval y= .slice (some ad) n c) (hz:a.eval z= .int k j) (h0:0<=j) (h1:j<n):(execOp a.eval o).run P w= .ok (.value (.pointer (some (ad.add (j.toNat*i.size))))) w:=by
 simp[execOp,ho,Instr.indexAt,run_underlying ht,hv,hz,asIntOf,sizeOf,typeInfo,hi,h0,h1]
def agu(h:Rel E S a w L){t e:TypeId}{y z:Operand}{y' z':bB}{i:TypeInfo}(ho:o.op= .indexAddr t y z)(ht:P.underlying t=some (.slice e))(hi:P.info? e=some i)(hy:bH y=some y')(hz:bH z=some z')
  (he:exec Γ nid S (.uo i.size y' z')=some (x,wr)):Good P E S a w o x wr:=by
 have r:=h.jL hy;have rz:=h.jL hz;simp only[exec]at he;split at he
 ·rename_i kk j ej;rw[ej]at rz;have hj:=rz.jE;split at he
  ·rename_i es ee;rw[ee]at r;split at he
   ·rename_i hb;split at he
    ·rename_i el hel;split at he
     ·rename_i hlen;obtain⟨rfl,rfl⟩:=bZ he;rcases r.GA with⟨_,h0⟩|⟨ad,c,k,vs,hv,hk,hr,hc,_,_⟩
      ·subst h0;simp at hel
      ·have hk':k=i.size:=(hk el (Q8 hel)).symm.trans hlen;subst hk';refine Good.pure h (JF ho ht hi hv hj hb.1 hb.2) ?_
       have h2:(es.flatten.drop (j.toNat*i.size)).take i.size=el:=by
        apply List.ext_getElem?;intro q;rw[Qq68];split
        ·rename_i hq;rw[List.getElem?_drop,AB es i.size j.toNat el hk hel q hq]
        ·rw[Qq72 (by omega)]
       have h1:=(hr.drop (j.toNat*i.size)).take i.size;rw[h2]at h1;refine .ref _ _ _ h1.1 (λq u hu=> ?_) h1.2
       rw[Qq68]at hu;split at hu
       ·rw[add_add,KN];exact hc _ u (gX hu)
       ·cases hu
     ·cases he
    ·cases he
   ·cases he
  ·rename_i id av ee;rw[ee]at r;split at he
   ·rename_i hver;split at he
    ·rename_i e0 k' es hc;split at he
     ·rename_i hb;obtain⟨rfl,rfl⟩:=bZ he;obtain⟨hN,hv⟩:=r.n4 (show(S.gh L).V id=av from hver)
      obtain⟨vs,hown,hk,hr⟩:=h.lx hN hc;rcases hown.2 with⟨hL,h0⟩|⟨g,cap,cur,hL,hb1,hh,_⟩
      ·omega
      ·rw[show(S.gh L).L id=L id from rfl,hL]at hv
       refine Good.pure h (JF ho ht hi hv hj hb.2.1 hb.2.2) ?_;refine .fh _ _ _ _ _ _ hN (Nat.le_of_eq hver.symm) (λ_=> ?_)
       rw[show(S.gh L).L id=L id from rfl,hL]
       simp[cd,add_mid]
     ·cases he
    ·cases he
   ·cases he
  ·rename_i id av k0 lo m ee;rw[ee]at r;split at he
   ·rename_i hver;split at he
    ·rename_i e0 k' es hc;split at he
     ·rename_i hb;obtain⟨hk1,hk0,hb0,hb1,hb2⟩:=hb;subst hk0;obtain⟨rfl,rfl⟩:=bZ he;obtain⟨hN,ad,c,hv,a0,m0,c0,hl,h1,h2,h3,h4⟩:=r.Bl (show(S.gh L).V id=av from hver)
      obtain⟨vs,hown,hk,hr⟩:=h.lx hN hc;have hl:L id= .slice a0 m0 c0:=hl;rcases hown.2 with⟨hL,h0⟩|⟨g,cap,cur,hL,hb1',hh,_⟩
      ·omega
      ·rw[hL]at hl;injection hl with e1 e2 e3
       subst e1 e2 e3;rcases h4 with h4|h4
       ·omega
       ·subst h4;refine Good.pure h (JF ho ht hi hv hj hb0 hb1) ?_;refine .fh _ _ _ _ _ _ hN (Nat.le_of_eq hver.symm) (λ_=> ?_)
        rw[show(S.gh L).L id=L id from rfl,hL]
        simp[cd,add_mid,Qq73]
     ·cases he
    ·cases he
   ·cases he
  ·cases he
 ·cases he
def aj9{t e:TypeId}{y z:Operand}{ad:Addr}{n:Nat}{i:TypeInfo}{k:IntKind}{j:Int}(ho:o.op= .indexAddr t y z)(ht:P.underlying t=some (.array n e))(hi:P.info? e=some i)
  (hv:a.eval y= .pointer (some ad)) (hz:a.eval z= .int k j) (h0:0<=j) (h1:j<n):(execOp a.eval o).run P w= .ok (.value (.pointer (some (ad.add (j.toNat*i.size))))) w:=by
 simp[execOp,ho,Instr.indexAt,Instr.sureAddr,run_underlying ht,hv,hz,asIntOf,sizeOf,typeInfo,hi,h0,h1]
def Yu{M:Nat->Prop}{G:Gh}{t:TypeId}{n:Option Nat}{cs':List PV}{vs:List Value}{off:Nat}{x:PV}(ht:vk P t=some n)(hrd:bo w M G cs' (vs.drop off))(hx:vB n cs'=some x):∃v,(part t vs.toArray off).run P w= .ok v w/\bp w M G x v:=by
 cases n with
 |none=>
  cases hcs:cs' with
  |nil=>rw[hcs]at hx;simp[vB]at hx
  |cons y ys=>
   rw[hcs]at hx hrd;simp only[vB,Qf]at hx;subst hx;obtain⟨v,us,hus,h1,_⟩:=hrd.cons_inv;refine⟨v,?_,h1⟩
   have hv:vs[off]?=some v:=by
    have:(vs.drop off)[0]?=some v:=by rw[hus];rfl
    simpa[List.getElem?_drop]using this
   have hag:(isAgg t).run P w= .ok false w:=by
    unfold vk at ht;split at ht
    ·simp at ht
    ·simp at ht
    ·rename_i d _ hu hd;unfold isAgg;rw[Sem.run_bind,run_underlying hd w];cases d<;>simp_all
    ·cases ht
   simp[part,hag,hv]
 |some m=>
  simp only[vB]at hx;split at hx
  ·rename_i hm;injection hx with hx
   subst hx
   have hi:∃i,P.info? t=some i/\i.size=m:=by
    unfold vk at ht;split at ht
    ·simpa using ht
    ·simpa using ht
    ·simp at ht
    ·cases ht
   obtain⟨i,hi,hs⟩:=hi
   have hag:(isAgg t).run P w= .ok true w:=by
    unfold vk at ht;unfold isAgg;split at ht
    ·rename_i hu;rw[Sem.run_bind,run_underlying hu w];simp
    ·rename_i hu;rw[Sem.run_bind,run_underlying hu w];simp
    ·simp at ht
    ·cases ht
   have h3:=hrd.take m;refine⟨.agg ((vs.drop off).take m).toArray,?_,.agg _ _ h3.1 h3.2⟩;simp only[part,Sem.run_bind,hag,Result.andThen_ok,sizeOf,typeInfo];simp[program,Sem.run,hi,hs]
  ·cases hx
def afQ{M:Nat->Prop}{G:Gh}{t:TypeId}{n:Option Nat}{cs:List PV}{vs:List Value}{off:Nat}{x:PV}(ht:vk P t=some n)(hr:bo w M G cs vs)(hx:vB n ((cs.drop off).map nz)=some x):∃v,(part t vs.toArray off).run P w= .ok v w/\bp w M G x v:=by
 have hrd:bo w M G ((cs.drop off).map nz) (vs.drop off):=⟨by simp[hr.1],λi y v hy hv=>by
  rw[QT,Qb]at hy;obtain⟨y0,hy0,rfl⟩:=hy;have h0:=(hr.drop off).2 i y0 v hy0 hv
  cases h0 with
  |eG|slnil=>exact .slnil
  |any=>exact .any _
  |undef=>exact .undef
  |int k n=>exact .int k n
  |bool b=>exact .bool b
  |gL b=>exact .gL b
  |str s=>exact .str s
  |lL=>exact .lL
  |bI f caps us hl h=>exact .bI f caps us hl h
  |jz f caps us hl h=>exact .jz f caps us hl h
  |agg cs us hl h=>exact .agg cs us hl h
  |eN cs us hl h=>exact .eN cs us hl h
  |ptr id av off a hN hV h=>exact .ptr id av off a hN hV h
  |ref cs a us hl hc h=>exact .ref cs a us hl hc h
  |sl es a c k us hk hl hc h hn hm=>exact .sl es a c k us hk hl hc h hn hm
  |own id av a n c hN hV h=>exact .own id av a n c hN hV h
  |fh id av k i off a hN hV h=>exact .fh id av k i off a hN hV h
  |view id av k lo n a c hN hV h=>exact .view id av k lo n a c hN hV h
  |jQ ks us b es ck hb hMb hk hl h1 h2=>exact .jQ ks us b es ck hb hMb hk hl h1 h2⟩
 exact Yu ht hrd hx
def ajC(h:Rel E S a w L){t:TypeId}{fs:Array Field}{f:Field}{n:Option Nat}{i:Nat}{y:Operand}{y':bB}(ho:o.op= .field t y i)(ht:P.underlying t=some (.struct fs))(hf:fs[i]?=some f)(hn:vk P f.type=some n)(hy:bH y=some y')
  (he:exec Γ nid S (.MP n f.offset y')=some (x,wr)):Good P E S a w o x wr:=by
 have ry:=h.jL hy;simp only[exec]at he;split at he
 ·rename_i cs e1;rw[e1]at ry;obtain⟨vs,hv,hr⟩:=ry.tu;simp only[Qb]at he;obtain⟨b,hb,he⟩:=he;injection he with h1 h2
  subst h1 h2;obtain⟨v,hp,hrv⟩:=Yu (w:=w) hn (hr.drop f.offset) hb;refine Good.pure h (v:=v) ?_ hrv;simp[execOp,ho,Instr.field,run_underlying ht,hv,hf,asAgg,hp]
 ·cases he
def aio(h:Rel E S a w L){t e:TypeId}{n:Option Nat}{len:Nat}{i:TypeInfo}{y z:Operand}{y' z':bB}(ho:o.op= .index t y z)(ht:P.underlying t=some (.array len e))(hn:vk P e=some n)(hi:P.info? e=some i)(hy:bH y=some y')(hz:bH z=some z')
  (he:exec Γ nid S (.Gr e n len i.size y' z')=some (x,wr)):Good P E S a w o x wr:=by
 have ry:=h.jL hy;have rz:=h.jL hz;simp only[exec]at he;split at he
 ·rename_i cs kk j e1 e2;rw[e1]at ry;rw[e2]at rz;obtain⟨vs,hv,hr⟩:=ry.tu;have hj:=rz.jE;split at he
  ·rename_i h0;simp only[Qb]at he;obtain⟨b,hb,he⟩:=he;injection he with h1 h2
   subst h1 h2;obtain⟨v,hp,hrv⟩:=afQ (w:=w) hn hr hb;refine Good.pure h (v:=v) ?_ hrv;have hsz:(Go.sizeOf e).run P w= .ok i.size w:=by simp[sizeOf,typeInfo,program,Sem.run,hi]
   simp[execOp,ho,Instr.index,run_underlying ht,hv,hj,asIntOf,h0.1,h0.2,hsz,hp]
  ·cases he
 ·cases he
def Rel.WJ(h:Rel E S a w L){y:PV}{v:Value}{es:List (List PV)}(r:bp w (bl E S L) (S.gh L) y v)(he:kR S y=some es):∃(ad:Option Addr) (c:Nat),v= .slice ad es.length c:=by
 unfold kR at he;split at he
 ·injection he with he;subst he;exact⟨none,0,r.ud⟩
 ·injection he with he;subst he
  rcases r.GA with⟨hv,h0⟩|⟨ad,c,k,vs,hv,_⟩
  ·subst h0;exact⟨none,0,hv⟩
  ·exact⟨_,_,hv⟩
 ·rename_i id av;split at he
  ·rename_i hver;split at he
   ·rename_i hc;injection he with he;subst he
    obtain⟨hN,hv⟩:=r.n4 (show(S.gh L).V id=av from hver)
    obtain⟨vs,hown,hk,hr⟩:=h.lx hN hc;rcases hown.2 with⟨hL,h0⟩|⟨g,cap,cur,hL,_⟩
    ·exact⟨none,0,by rw[hv,show(S.gh L).L id=L id from rfl,hL,h0]⟩
    ·exact⟨_,_,by rw[hv,show(S.gh L).L id=L id from rfl,hL]⟩
   ·cases he
  ·cases he
 ·rename_i id av k lo n;split at he
  ·rename_i hver;split at he
   ·split at he
    ·rename_i e1 k' es0 hc _;injection he with he;subst he
     obtain⟨hN,ad,c,hv,hat⟩:=r.Bl (show(S.gh L).V id=av from hver)
     have hb:=h.K5 hN hc hat;refine⟨ad,c,?_⟩;rw[hv];congr 1;simp;omega
    ·cases he
   ·cases he
  ·cases he
 ·cases he
def aik(h:Rel E S a w L){y:Operand}{y':bB}{t:TypeId}(ho:o.op= .call {callee:= .builtin .len,args:=#[y],argTypes:=#[t]})(ht:P.underlying t=some .string)(hy:bH y=some y')
  (he:exec Γ nid S (.len true y')=some (x,wr)):Good P E S a w o x wr:=by
 have r:=h.jL hy;simp only[exec]at he;split at he
 ·rename_i s e;rw[e]at r;obtain⟨rfl,rfl⟩:=bZ he;have hv:=r.Bo;exact Good.pure h (by simp[execOp,ho,resolve,invoke,builtin,Builtin.len_,run_underlying ht,hv,goInt]) (.int _ _)
 ·cases he
def ajB(h:Rel E S a w L){y:Operand}{y':bB}{t e:TypeId}(ho:o.op= .call {callee:= .builtin .len,args:=#[y],argTypes:=#[t]})(ht:P.underlying t=some (.slice e))(hy:bH y=some y')
  (he:exec Γ nid S (.len false y')=some (x,wr)):Good P E S a w o x wr:=by
 have r:=h.jL hy;simp only[exec,Qb]at he;obtain⟨es,hes,he⟩:=he;injection he with h1 h2
 subst h1 h2;obtain⟨ad,c,hv⟩:=h.WJ r hes;exact Good.pure h (by simp[execOp,ho,resolve,invoke,builtin,Builtin.len_,run_underlying ht,hv,goInt]) (.int _ _)
def Wy(h:Rel E S a w L){y z:Operand}{y' z':bB}{mx:Bool}{ts:Array TypeId}(ho:o.op= .call {callee:= .builtin (if mx then .max else .min),args:=#[y,z],argTypes:=ts})(hy:bH y=some y')(hz:bH z=some z')
  (he:exec Γ nid S (.we mx y' z')=some (x,wr)):Good P E S a w o x wr:=by
 have ry:=h.jL hy;have rz:=h.jL hz;simp only[exec]at he;split at he
 ·rename_i k p k' q e1 e2;split at he
  ·rename_i hk;subst hk;obtain⟨rfl,rfl⟩:=bZ he;rw[e1]at ry;rw[e2]at rz;have hv:=ry.jE;have hu:=rz.jE;cases mx
   ·exact Good.pure h (by simp[execOp,ho,resolve,invoke,builtin,Builtin.min_,Builtin.min2,hv,hu]) (.int _ _)
   ·exact Good.pure h (by simp[execOp,ho,resolve,invoke,builtin,Builtin.max_,Builtin.max2,hv,hu]) (.int _ _)
  ·cases he
 ·cases he
end
end
section
open Go.RowKit
section
variable {P : Program} {E : En} {S : St} {a : Act} {w : World} {L : Nat -> Value} {o : Oper} {x : PV} {wr : Option (Nat × gm)} {Γ : qv} {nid : Nat}
def P7(off:Nat):∀(vs:List Value) (s:Nat) (cells:Array Value),off+s+vs.length<=cells.size->
  ((vs.zipIdx s).foldl (λcs (p:Value×Nat)=>cs.setIfInBounds (off+p.2) p.1) cells).toList=cells.toList.take (off+s)++vs++cells.toList.drop (off+s+vs.length)
 |[],s,cells,_=>by simp
 |v::vs,s,cells,h=>by
  simp only[List.zipIdx_cons,QU];rw[P7 off vs (s+1) _ (by simp at h ⊢;omega)]
  have:=list_seg_step cells.toList (off+s) v vs (by simp at h ⊢;omega)
  simpa[Array.toList_setIfInBounds,Nat.add_assoc]using this
def aaf(off:Nat)(vs cells:Array Value)(h:off+vs.size<=cells.size):
  (vs.zipIdx.foldl (λcs (p:Value×Nat)=>cs.setIfInBounds (off+p.2) p.1) cells).toList=cells.toList.take off++vs.toList++cells.toList.drop (off+vs.size):=by
 have:=P7 off vs.toList 0 cells (by simpa using h)
 simp only[Nat.add_zero,Array.length_toList]at this;rw[<-this,<-Array.foldl_toList];simp
def bo.iT{M:Nat->Prop}{G:Gh}{cs xs:List PV}{vs us:List Value}(h:bo w M G cs vs)(k:bo w M G xs us)(off:Nat):
  bo w M G (iT cs off xs) (vs.take off++us++vs.drop (off+us.length)):=by
 unfold TQ.iT;rw[k.1];exact((h.take off).append k).append (h.drop _)
def LA(h:Rel E S a w L)(place:Nat->Option (Nat×Nat)):∀(parts:List (Nat×Operand)) (ps:List (Nat×Nat×bB)) (cells:Array Value) (cs cs':List PV),yq place parts=some ps->
  bo w (bl E S L) (S.gh L) cs cells.toList->tq S cs ps=some cs'->∃cells',Instr.fill place cells (parts.map λp=>(p.1,a.eval p.2))=some cells'/\bo w (bl E S L) (S.gh L) cs' cells'.toList
 |[],ps,cells,cs,cs',hp,hr,hf=>by simp[yq]at hp;subst hp;simp only[tq,Qf]at hf;subst hf;exact⟨cells,rfl,hr⟩
 |(i,y)::rest,ps,cells,cs,cs',hp,hr,hf=>by
  simp only[yq,Qq75,Qd,Qc,Option.pure_def,Qf]at hp;obtain⟨_,⟨⟨off,n⟩,hq,y',hy,rfl⟩,qs,hqs,rfl⟩:=hp;simp only[tq]at hf;split at hf
  ·rename_i hb;obtain⟨h1,h2,h3⟩:=hb;have r:=(h.jL hy).cells (λz hz=>QH.1 h3 z hz)
   have hn:(a.eval y).cells.size=n:=by have:=r.1.1;simp at this;omega
   have hlen:cells.size=cs.length:=by have:=hr.1;simpa using this
   have hfc:=aaf off (a.eval y).cells cells (by omega)
   have hr2:bo w (bl E S L) (S.gh L) (TQ.iT cs off (y'.val S).cells) ((a.eval y).cells.zipIdx.foldl (λcs (p:Value×Nat)=>cs.setIfInBounds (off+p.2) p.1) cells).toList:=by rw[hfc];have:=hr.iT r.1 off;simpa using this
   obtain⟨cells',hfl,hr'⟩:=LA h place rest qs _ _ cs' hqs hr2 hf;refine⟨cells',?_,hr'⟩;simp only[QD,Instr.fill,hq];rw[Qs (by simp[hn];omega)]
   exact hfl
  ·cases hf
def Pe{M:Nat->Prop}{G:Gh}:∀{vs:List Value} {cs:List PV},vs.mapM G6=some cs->bo w M G cs vs
 |[],cs,h=>by simp at h;subst h;exact .nil
 |v::vs,cs,h=>by simp only[Qq75,Qd,Qc,Option.pure_def,Qf]at h;obtain⟨x,hx,xs,hxs,rfl⟩:=h;exact .cons (MU hx) (Pe hxs)
def D4{M:Nat->Prop}{G:Gh}{t:TypeId}{z:List PV}(h:w4 P t=some z):∃i v,P.info? t=some i/\i.zero=some v/\v.cells.size=i.size/\bo w M G z v.cells.toList:=by
 unfold w4 at h;split at h
 ·rename_i i hi;split at h
  ·rename_i v hv;split at h
   ·rename_i hs;exact⟨i,v,hi,hv,hs,Pe h⟩
   ·cases h
  ·cases h
 ·cases h
def YQ(h:Rel E S a w L){t:TypeId}{parts:Array (Nat×Operand)}{z:List PV}{ps:List (Nat×Nat×bB)}(ho:o.op= .build t parts)(hz:w4 P t=some z)
  (hp:(∃fields places,P.underlying t=some (.struct fields)/\fields.toList.mapM (λf=>(P.info? f.type).map λi=>(f.offset,i.size))=some places/\yq (λi=>places[i]?) parts.toList=some ps)\/
   (∃n e i,P.underlying t=some (.array n e)/\P.info? e=some i/\yq (λj=>some (j*i.size,i.size)) parts.toList=some ps))
  (he:exec Γ nid S (.build z ps)=some (x,wr)):Good P E S a w o x wr:=by
 simp only[exec,Qb]at he;obtain⟨cs,hf,he⟩:=he;injection he with h1 h2
 subst h1 h2;obtain⟨i,v,hi,hv,hs,hr⟩:=D4 (P:=P) (w:=w) (M:=bl E S L) (G:=S.gh L) hz;rcases hp with⟨fields,places,hu,hpl,hc⟩|⟨n,e,ie,hu,hie,hc⟩
 ·obtain⟨cells,hfl,hr'⟩:=LA h _ _ _ _ _ _ hc hr hf;refine Good.pure (v:= .agg cells) h ?_ (by have:=hr';exact(show(cells:Array Value)=cells.toList.toArray by simp)▸ .agg cs cells.toList this.1 this.2)
  have hb:P.built t (parts.map λ(i,x)=>(i,a.eval x)).toList=some cells:=by simp only[Program.built,hi,hu,hv,hpl];simpa using hfl
  simp only[execOp,ho,Sem.run_bind,run_build w t _ cells hb,Result.andThen_ok,Sem.run_pure]
 ·obtain⟨cells,hfl,hr'⟩:=LA h _ _ _ _ _ _ hc hr hf;refine Good.pure (v:= .agg cells) h ?_ (by have:=hr';exact(show(cells:Array Value)=cells.toList.toArray by simp)▸ .agg cs cells.toList this.1 this.2)
  have hb:P.built t (parts.map λ(i,x)=>(i,a.eval x)).toList=some cells:=by simp only[Program.built,hi,hu,hv,hie];simpa using hfl
  simp only[execOp,ho,Sem.run_bind,run_build w t _ cells hb,Result.andThen_ok,Sem.run_pure]
end
end
section
open Go.RowKit
section
variable {P : Program} {E : En} {S : St} {a : Act} {w : World} {L : Nat -> Value} {o : Oper} {x : PV} {wr : Option (Nat × gm)} {Γ : qv} {nid : Nat}
def Rel.abK(h:Rel E S a w L)(hn:nid<S.N){cs:List PV}{cur:Array Value}(T:TypeId)(hr:bo w (bl E S L) (S.gh L) cs cur.toList):
  ∃L',Rel E (S.fl (some (nid,⟨(S.H nid).av+1,.box cs⟩))) a (w.alloc (.cells cur T)) L'/\
   bp (w.alloc (.cells cur T)) (bl E (S.fl (some (nid,⟨(S.H nid).av+1,.box cs⟩))) L') ((S.fl (some (nid,⟨(S.H nid).av+1,.box cs⟩))).gh L') (.ptr nid ((S.H nid).av+1) 0) (.pointer (some ⟨w.heap.size,0,none⟩)):=by
 obtain⟨h1,hs,hg⟩:=h.vR (w':=w.alloc (.cells cur T)) hn ⟨(S.H nid).av+1,.box cs⟩ (.pointer (some ⟨w.heap.size,0,none⟩)) (.inr (Nat.lt_succ_self _)) rfl rfl rfl (by simp)
  (λb hb _=>Below.heap_alloc _ _ _ hb) (λb _ hb=> .inr (by simp only[cd,Qf]at hb;omega))
  (λhs hg=>⟨w.heap.size,cur,T,rfl,heap_alloc_new w _,.inr h.fr.size,hr.mono hs hg⟩)
 refine⟨_,h1,?_⟩;refine .ptr _ _ _ _ hn ?_ (λ_=> ?_)
 ·simp[St.gh,St.fl,ct]
 ·simp[St.gh,St.fl,ct,cd]
def Rel.YH(h:Rel E S a w L)(hn:nid<S.N){e k c:Nat}{es:List (List PV)}{cur:Array Value}(hk:∀u∈es,u.length=k)(hec:es.length<=c)(hm:c<=maxLen)(hcl:cur.toList.length=c*k)(hr:bo w (bl E S L) (S.gh L) es.flatten (cur.toList.take (es.length*k))):
  ∃L',Rel E (S.fl (some (nid,⟨(S.H nid).av+1,.row e k es⟩))) a (w.alloc (.cells cur e)) L'/\
   bp (w.alloc (.cells cur e)) (bl E (S.fl (some (nid,⟨(S.H nid).av+1,.row e k es⟩))) L') ((S.fl (some (nid,⟨(S.H nid).av+1,.row e k es⟩))).gh L') (.own nid ((S.H nid).av+1)) (.slice (some ⟨w.heap.size,0,none⟩) es.length c):=by
 have hl:(cur.toList.take (es.length*k)).length=es.length*k:=by rw[hr.1,nk es k hk]
 obtain⟨h1,hs,hg⟩:=h.vR (w':=w.alloc (.cells cur e)) hn ⟨(S.H nid).av+1,.row e k es⟩ (.slice (some ⟨w.heap.size,0,none⟩) es.length c) (.inr (Nat.lt_succ_self _)) rfl rfl rfl (by simp)
  (λb hb _=>Below.heap_alloc _ _ _ hb) (λb _ hb=> .inr (by simp only[cd,Qf]at hb;omega))
  (λhs hg=>⟨cur.toList.take (es.length*k),⟨hl,.inr ⟨w.heap.size,c,cur,rfl,QK (OE E _) h.fr.size,heap_alloc_new w _,hec,hm,by simpa using hcl,rfl⟩⟩,hk,hr.mono hs hg⟩)
 refine⟨_,h1,?_⟩;refine .own _ _ _ _ _ hn ?_ (λ_=> ?_)
 ·simp[St.gh,St.fl,ct]
 ·simp[St.gh,St.fl,ct]
def Rel.newRow(h:Rel E S a w L)(hn:nid<S.N){e k:Nat}{es:List (List PV)}{cur:Array Value}(hk:∀u∈es,u.length=k)(hm:es.length<=maxLen)(hr:bo w (bl E S L) (S.gh L) es.flatten cur.toList):
  ∃L',Rel E (S.fl (some (nid,⟨(S.H nid).av+1,.row e k es⟩))) a (w.alloc (.cells cur e)) L'/\
   bp (w.alloc (.cells cur e)) (bl E (S.fl (some (nid,⟨(S.H nid).av+1,.row e k es⟩))) L') ((S.fl (some (nid,⟨(S.H nid).av+1,.row e k es⟩))).gh L') (.own nid ((S.H nid).av+1)) (.slice (some ⟨w.heap.size,0,none⟩) es.length es.length):=by
 have hl:cur.toList.length=es.length*k:=by rw[hr.1,nk es k hk]
 exact h.YH hn hk (QI _) hm hl (by rw[<-hl,Qq62];exact hr)
def Oz(e:TypeId)(cells:Array Value):(newRow e cells).run P w= .ok ⟨w.heap.size,0,none⟩ (w.alloc (.cells cells e)):=rfl
def HE(e:TypeId)(v:Value):(newVar e v).run P w= .ok ⟨w.heap.size,0,none⟩ (w.alloc (.cells v.cells e)):=rfl
def ae4(h:Rel E S a w L)(hn:nid<S.N){t:TypeId}{y:Operand}{y':bB}(ho:o.op= .box t y)(hy:bH y=some y')(he:exec Γ nid S (.box y')=some (x,wr)):Good P E S a w o x wr:=by
 simp only[exec]at he;split at he
 ·rename_i h1;obtain⟨rfl,rfl⟩:=bZ he;have r:=((h.jL hy).cells (λz hz=>QH.1 h1 z hz)).1
  obtain⟨L',h2,h3⟩:=h.abK hn t r;exact⟨_,_,L',_,by simp[execOp,ho,Instr.box,HE],.inl rfl,h3,h2⟩
 ·cases he
def agx(h:Rel E S a w L)(hn:nid<S.N){t:TypeId}{z:List PV}(ho:o.op= .alloc t)(hz:w4 P t=some z)(he:exec Γ nid S (.alloc z)=some (x,wr)):Good P E S a w o x wr:=by simp only[exec]at he;obtain⟨rfl,rfl⟩:=bZ he;obtain⟨i,v,hi,hv,hs,hr⟩:=D4 (P:=P) (w:=w) (M:=bl E S L) (G:=S.gh L) hz;obtain⟨L',h2,h3⟩:=h.abK hn t hr;exact⟨_,_,L',_,by simp[execOp,ho,Instr.alloc,zeroValue,typeInfo,hi,hv,HE],.inl rfl,h3,h2⟩
def J5(z:Array Value)(hz:0<z.size)(n:Nat):((Array.range (n*z.size)).map (z[· % z.size]!)).toList=(replicate n z.toList).flatten:=by
 apply List.ext_getElem?;intro i;have hfl:(replicate n z.toList).flatten.length=n*z.size:=by rw[nk _ z.size (λu hu=>by rw[(List.mem_replicate.1 hu).2];simp)];simp
 by_cases hi:i<n*z.size
 ·have hq:i / z.size<n:=by rw[Nat.div_lt_iff_lt_mul hz];exact hi
  have hr:i % z.size<z.size:=Nat.mod_lt _ hz;have:=AB (replicate n z.toList) z.size (i / z.size) z.toList (λu hu=>by rw[(List.mem_replicate.1 hu).2];simp) (by rw[List.getElem?_replicate,Qr hq]) (i % z.size) hr
  have e:i / z.size*z.size+i % z.size=i:=by rw[Nat.mul_comm];exact Nat.div_add_mod i z.size
  rw[e]at this;rw[this];simp[hi,hr]
 ·rw[Qq72 (by simp;omega),Qq72 (by omega)]
def Gg{α:Type}:∀(es:List (List α)) (k i:Nat) (xs:List α),(∀u∈es,u.length=k)->xs.length=k->i<es.length->(es.set i xs).flatten=es.flatten.take (i*k)++xs++es.flatten.drop (i*k+xs.length)
 |[],_,_,_,_,_,h=>by simp at h
 |e::es,k,i,xs,hk,hx,hi=>by
  have he:e.length=k:=hk e (by simp)
  cases i with
  |zero=>simp only[List.set_cons_zero,List.flatten_cons,Nat.zero_mul,List.take_zero,List.nil_append,Nat.zero_add];rw[hx,<-he,List.drop_left]
  |succ i=>
   have:=Gg es k i xs (λu hu=>hk u (by simp[hu])) hx (by simpa using hi)
   simp only[List.set_cons_succ,List.flatten_cons,this];have e1:(i+1)*k=e.length+i*k:=by rw[Qq73,he];omega
   rw[e1,List.take_append,List.take_of_length_le (show e.length<=e.length+i*k by omega),Nat.add_sub_cancel_left,Nat.add_assoc,List.drop_append,
    List.drop_eq_nil_of_le (show e.length<=e.length+(i*k+xs.length)by omega),Nat.add_sub_cancel_left]
   simp
def T5(k:Nat):∀(ps:List (Nat×bB)) (es es':List (List PV)),(∀u∈es,u.length=k)->wA S k es ps=some es'->
  tq S es.flatten (ps.map λp=>(p.1*k,k,p.2))=some es'.flatten/\(∀u∈es',u.length=k)/\es'.length=es.length
 |[],es,es',hk,hf=>by simp only[wA,Qf]at hf;subst hf;exact⟨rfl,hk,rfl⟩
 |(i,y)::ps,es,es',hk,hf=>by
  simp only[wA]at hf;split at hf
  ·rename_i hb;obtain⟨h1,h2,h3⟩:=hb
   have hk':∀u∈es.set i (y.val S).cells,u.length=k:=by
    intro u hu;rcases List.mem_or_eq_of_mem_set hu with hu|hu
    ·exact hk u hu
    ·rw[hu,h1]
   obtain⟨h4,h5,h6⟩:=T5 k ps _ _ hk' hf;refine⟨?_,h5,by simpa using h6⟩
   have hle:i*k+k<=es.flatten.length:=by
    rw[nk es k hk];have:=Qq63 k (show i+1<=es.length by omega)
    rw[Qq73]at this;omega
   simp only[QD,tq];rw[Qr ⟨h1,hle,h3⟩];rw[Gg es k i _ hk h1 h2]at h4;exact h4
  ·cases hf
def Uc{k:Nat}:∀{parts:List (Nat×Operand)} {ps:List (Nat×bB)},(parts.mapM λp=>(bH p.2).map λy=>(p.1,y))=some ps->yq (λj=>some (j*k,k)) parts=some (ps.map λp=>(p.1*k,k,p.2))
 |[],ps,h=>by simp at h;subst h;simp[yq]
 |p::parts,ps,h=>by simp only[Qq75,Qd,Qc,Option.pure_def,Qf,Qb]at h;obtain⟨q,⟨y,hy,rfl⟩,qs,hqs,rfl⟩:=h;have ih:=Uc (k:=k) hqs;unfold yq at ih ⊢;simp only[Qq75,ih];simp[hy]
def yy{M:Nat->Prop}{G:Gh}{z:List PV}{vs:List Value}(h:bo w M G z vs):∀n,bo w M G (replicate n z).flatten (replicate n vs).flatten
 |0=>by simpa using bo.nil
 |n+1=>by simp only[List.replicate_succ,List.flatten_cons];exact h.append (yy h n)
def bp.SU{M:Nat->Prop}{G G':Gh}{y:PV}{v:Value}(h:bp w M G y v)(hc:y.closed=true):bp w M G' y v:=by
 cases h with
 |any|undef|jz|agg|eN|ptr|own|fh|view=>simp[PV.closed]at hc
 |int=>exact .int _ _
 |bool=>exact .bool _
 |gL=>first|exact .gL _|simp[PV.closed]at hc
 |str=>exact .str _
 |lL=>exact .lL
 |eG=>exact .eG
 |bI f cs vs hl h=>
  cases cs with
  |nil=>exact .bI f [] vs hl (λi x v hx _=>by simp at hx)
  |cons=>simp[PV.closed]at hc
 |ref cs ad vs hl hcell h=>exact .ref cs ad vs hl hcell h
 |sl es ad c k vs hk hl hcell h hn hm=>exact .sl es ad c k vs hk hl hcell h hn hm
 |slnil=>exact .slnil
 |jQ ks us b es ck hb hMb hk hv h1 h2=>exact .jQ ks us b es ck hb hMb hk hv h1 h2
def ain(h:Rel E S a w L){t:TypeId}{y:Operand}{y':bB}(ho:o.op= .box t y)(hy:bH y=some y')(he:exec Γ nid S (.Gn y')=some (x,wr)):Good P E S a w o x wr:=by
 simp only[exec]at he;split at he
 ·rename_i h1;rw[Qm]at h1;obtain⟨rfl,rfl⟩:=bZ he;have r:=((h.jL hy).cells (λz hz=>QH.1 h1.1 z hz)).1
  obtain⟨h2,hs1⟩:=h.grow (w':=w.alloc (.cells (a.eval y).cells t)) rfl rfl rfl (by simp) (λb hb=>Below.heap_alloc _ _ _ hb)
  refine⟨.value (.pointer (some ⟨w.heap.size,0,none⟩)),_,L,_,by simp[execOp,ho,Instr.box,HE],.inl rfl,?_,h2⟩
  have r2:bo (w.alloc (.cells (a.eval y).cells t)) (bl E S L) ed (y'.val S).cells (a.eval y).cells.toList:=
   ⟨r.1,λi0 z v0 hz hv0=>((r.2 i0 z v0 hz hv0).mono hs1 (Gh.le.refl _)).SU (QH.1 h1.2 z (Q8 hz))⟩
  refine .ref _ _ (a.eval y).cells.toList r2.1 (λq u hu=>⟨?_,λhm=> ?_⟩) r2.2
  ·rw[add_mid];exact rX (heap_alloc_new w _) (by simpa using hu)
  ·rcases hm with⟨id,hid,hl,hb⟩|hm
   ·have:=((h.obj id hid).yr hl hb).1;exact absurd this (Nat.lt_irrefl _)
   ·exact absurd (h.acN hm) (Nat.lt_irrefl _)
 ·cases he
def bp.nz{M:Nat->Prop}{G:Gh}{y:PV}{v:Value}(h:bp w M G y v):bp w M G (nz y) v:=by
 cases h with
 |eG|slnil=>exact .slnil
 |any=>exact .any _
 |undef=>exact .undef
 |int=>exact .int _ _
 |bool=>exact .bool _
 |gL=>exact .gL _
 |str=>exact .str _
 |lL=>exact .lL
 |bI f cs vs hl h=>exact .bI f cs vs hl h
 |jz f cs vs hl h=>exact .jz f cs vs hl h
 |agg cs vs hl h=>exact .agg cs vs hl h
 |eN cs vs hl h=>exact .eN cs vs hl h
 |ptr _ _ _ _ h1 h2 h3=>exact .ptr _ _ _ _ h1 h2 h3
 |ref cs ad vs hl hc h=>exact .ref cs ad vs hl hc h
 |sl es ad c k vs hk hl hc h hn hm=>exact .sl es ad c k vs hk hl hc h hn hm
 |own _ _ _ _ _ h1 h2 h3=>exact .own _ _ _ _ _ h1 h2 h3
 |fh _ _ _ _ _ _ h1 h2 h3=>exact .fh _ _ _ _ _ _ h1 h2 h3
 |view _ _ _ _ _ _ _ h1 h2 h3=>exact .view _ _ _ _ _ _ _ h1 h2 h3
 |jQ ks us b es ck hb hMb hk hv h1 h2=>exact .jQ ks us b es ck hb hMb hk hv h1 h2
def bo.nz{M:Nat->Prop}{G:Gh}{cs:List PV}{vs:List Value}(h:bo w M G cs vs):bo w M G (cs.map Go.TQ.nz) vs:=
 ⟨by simp[h.1],λi x v hx hv=>by
  rw[QT,Qb]at hx;obtain⟨y,hy,rfl⟩:=hx
  exact(h.2 i y v hy hv).nz⟩
def MF(es:List (List PV)):(Ek es).flatten=es.flatten.map nz:=by simp[Ek,List.map_flatten]
def ZX(es:List (List PV)):(Ek es).length=es.length:=by simp[Ek]
def af4{es:List (List PV)}{k:Nat}(h:∀u∈es,u.length=k):∀u∈Ek es,u.length=k:=by intro u hu;simp only[Ek,QP]at hu;obtain⟨e,he,rfl⟩:=hu;simpa using h e he
def abD{y:PV}(h:y.closed=true):(nz y).closed=true:=by cases y<;>simp_all [nz,PV.closed]
def ajD(h:Rel E S a w L)(hn:nid<S.N){t e:TypeId}{len:Nat}{parts:Array (Nat×Operand)}{i:TypeInfo}{z:List PV}{ps:List (Nat×bB)}{mb:Bool}(ho:o.op= .buildSlice t len parts)(ht:P.underlying t=some (.slice e))
  (hi:P.info? e=some i) (hz:w4 P e=some z) (hps:(parts.toList.mapM λp=>(bH p.2).map λy=>(p.1,y))=some ps) (hsm:len*i.size<=16777216) (h0:0<i.size) (hlen:len<=maxLen)
  (he:exec Γ nid S (.Rl mb e i.size (replicate len z) ps)=some (x,wr)):Good P E S a w o x wr:=by
 simp only[exec]at he;split at he
 case h_2=>cases he
 rename_i es hf;obtain⟨i',v,hi',hv,hs,hr⟩:=D4 (P:=P) (w:=w) (M:=bl E S L) (G:=S.gh L) hz;rw[hi]at hi';injection hi' with hi'
 subst hi';have hzl:z.length=i.size:=by have:=hr.1;simp at this;omega
 obtain⟨h3,h4,h5⟩:=T5 i.size ps _ _ (λu hu=>by rw[(List.mem_replicate.1 hu).2,hzl]) hf
 have hr0:bo w (bl E S L) (S.gh L) (replicate len z).flatten ((Array.range (len*i.size)).map (v.cells[· % v.cells.size]!)).toList:=by
  rw[<-hs,J5 v.cells (by omega)]
  exact yy hr len
 obtain⟨cells,hfl,hr'⟩:=LA h _ _ _ _ _ _ (Uc hps) hr0 h3;have hle:(Ek es).length=len:=by rw[ZX,h5];simp
 replace h4:=af4 h4;replace hr':=hr'.nz;rw[<-MF]at hr'
 have hrun:(execOp a.eval o).run P w= .ok (.value (.slice (some ⟨w.heap.size,0,none⟩) len len)) (w.alloc (.cells cells e)):=by
  have hfl':Instr.fill (λj=>some (j*i.size,i.size)) ((Array.range (len*i.size)).map (v.cells[· % v.cells.size]!)) (parts.map λp=>(p.1,a.eval p.2)).toList=some cells:=by simpa using hfl
  by_cases hl0:len*i.size=0
  ·simp[execOp,ho,Instr.buildSlice,run_underlying ht,sizeOf,typeInfo,hi,hl0]at hfl' ⊢;have hle0:len=0:=by rcases Nat.mul_eq_zero.1 hl0 with h|h<;>omega
   subst hle0;have hnil:∀f:Nat->Value,Array.map f (Array.range 0)=#[]:=λf=>by simp
   rw[hnil]at hfl' ⊢;rw[show Instr.fill (λi_1=>some (i_1*i.size,i.size)) #[] (List.map (λx=>(x.fst,a.eval x.snd)) parts.toList)=some cells from hfl']
   simp[Oz]
  ·simp[execOp,ho,Instr.buildSlice,run_underlying ht,sizeOf,typeInfo,zeroValue,hi,hv,hl0,Nat.not_lt.2 hsm]at hfl' ⊢;rw[show Instr.fill (λi_1=>some (i_1*i.size,i.size)) (Array.map (λx=>v.cells[x % v.cells.size]!) (Array.range (len*i.size))) (List.map (λx=>(x.fst,a.eval x.snd)) parts.toList)=some cells from hfl']
   simp[Oz]
 split at he
 ·rename_i hcl;obtain⟨rfl,rfl⟩:=bZ he;obtain⟨h1,hs1⟩:=h.grow (w':=w.alloc (.cells cells e)) rfl rfl rfl (by simp) (λb hb=>Below.heap_alloc _ _ _ hb)
  refine⟨_,_,L,_,hrun,.inl rfl,?_,h1⟩
  have hall:∀y∈(Ek es).flatten,y.closed=true:=λy hy=>by rw[MF]at hy;obtain⟨y0,hy0,rfl⟩:=QP.1 hy;obtain⟨u,hu,hyu⟩:=List.mem_flatten.1 hy0;exact abD (QH.1 (QH.1 hcl.2 u hu) y0 hyu)
  have hr2:bo (w.alloc (.cells cells e)) (bl E S L) ed (Ek es).flatten cells.toList:=
   ⟨hr'.1,λi0 y v0 hy hv0=>((hr'.2 i0 y v0 hy hv0).mono hs1 (Gh.le.refl _)).SU (hall y (Q8 hy))⟩
  rw[<-hle];refine .sl (Ek es) _ _ i.size cells.toList h4 hr2.1 (λq u hu=>⟨?_,λhm=> ?_⟩) hr2.2 (QI _) (by omega)
  ·rw[add_mid];exact rX (heap_alloc_new w _) (by simpa using hu)
  ·rcases hm with⟨id,hid,hl,hb⟩|hm
   ·have:=((h.obj id hid).yr hl hb).1;exact absurd this (Nat.lt_irrefl _)
   ·exact absurd (h.acN hm) (Nat.lt_irrefl _)
 ·obtain⟨rfl,rfl⟩:=bZ he;obtain⟨L',h6,h7⟩:=h.newRow (e:=e) hn h4 (by omega) hr'
  rw[hle]at h7;exact⟨_,_,L',_,hrun,.inl rfl,h7,h6⟩
def ajy(h:Rel E S a w L)(hn:nid<S.N){t e:TypeId}{y z:Operand}{y' z':bB}{i:TypeInfo}{zc:List PV}(ho:o.op= .makeSlice t y z)(ht:P.underlying t=some (.slice e))(hi:P.info? e=some i)(h0:0<i.size)(hz:w4 P e=some zc)
  (hy:bH y=some y') (hz':bH z=some z') (he:exec Γ nid S (.Pb e i.size i.bytes zc y' z')=some (x,wr)):Good P E S a w o x wr:=by
 have ry:=h.jL hy;have rz:=h.jL hz';simp only[exec]at he;split at he
 ·rename_i k n k' m e1 e2;split at he
  ·rename_i hb;obtain⟨hnm,hn0,hby,hml⟩:=hb;obtain⟨rfl,rfl⟩:=bZ he;rw[e1]at ry;rw[e2]at rz;have hv:=ry.jE;have hu:=rz.jE;obtain⟨i',v,hi',hv0,hs,hr⟩:=D4 (P:=P) (w:=w) (M:=bl E S L) (G:=S.gh L) hz;rw[hi]at hi';injection hi' with hi'
   subst hi';have hzl:zc.length=i.size:=by have:=hr.1;simp at this;omega
   have hle:n.toNat<=m.toNat:=by omega
   have hml':(madeCells v.cells (m.toNat*i.size)).toList=(replicate m.toNat v.cells.toList).flatten:=by unfold madeCells;rw[<-hs,J5 v.cells (by omega)]
   have hcl:(madeCells v.cells (m.toNat*i.size)).toList.length=m.toNat*i.size:=by simp[madeCells]
   have hr0:bo w (bl E S L) (S.gh L) (replicate n.toNat (zc.map nz)).flatten ((madeCells v.cells (m.toNat*i.size)).toList.take ((replicate n.toNat (zc.map nz)).length*i.size)):=by
    rw[hml',List.length_replicate,show m.toNat=n.toNat+(m.toNat - n.toNat)by omega,<-List.replicate_append_replicate,List.flatten_append,List.take_left' (by rw[nk _ i.size λu hu=>by rw[(List.mem_replicate.1 hu).2];simpa using hs,List.length_replicate])]
    exact yy hr.nz _
   obtain⟨L',h6,h7⟩:=h.YH (e:=e) (k:=i.size) (c:=m.toNat) hn (λu hu=>by rw[(List.mem_replicate.1 hu).2,QC,hzl]) (by rw[List.length_replicate];exact hle) hml hcl hr0
   simp only[List.length_replicate]at h7;refine⟨_,_,L',_,?_,.inl rfl,h7,h6⟩
   have hbb:(i.bytes:Int)*m<=281474976710656:=by
    have h1:((m.toNat*i.bytes:Nat):Int)<=140737488355328:=by omega
    have h2:((m.toNat:Nat):Int)=m:=Int.toNat_of_nonneg (by omega)
    rw[Int.natCast_mul,h2,Int.mul_comm]at h1;omega
   have hm63:m<=9223372036854775807:=by simp only[maxLen]at hml;omega
   have:=run_make (P:=P) w t e i v ht hi hv0 k k' n m hn0 hnm hbb hm63;simp only[execOp,ho,hv,hu,Sem.run_bind,this,Result.andThen_ok,Sem.run_pure]
  ·cases he
 ·cases he
def JE{t:TypeId}{y z:Operand}{b off:Nat}{cur:Array Value}{T:TypeId}{i:TypeInfo}(ho:o.op= .store t y z)(hi:P.info? t=some i)(hv:a.eval y= .pointer (some ⟨b,off,none⟩))(hh:w.heap[b]?=some (.cells cur T (0,0)))
  (hs:(a.eval z).cells.size=i.size) (hle:off+i.size<=cur.size) (h1:∀u∈(a.eval z).cells.toList,u.oneCell'=true):
  (execOp a.eval o).run P w= .ok .skip (w.setRow b (cur.toList.take off++(a.eval z).cells.toList++cur.toList.drop (off+i.size)).toArray):=by
 have:=run_storeCells_at (P:=P) b off T (a.eval z).cells.toList 0 cur w hh (by simp;omega) h1
 simp only[Nat.add_zero,Array.length_toList,hs]at this;simp[execOp,ho,hv,Instr.storeAt,Instr.sureAddr,storeVar,sizeOf,typeInfo,hi,hs,this]
def Zp{α:Type}(F c xs:List α)(k J off n:Nat)(hc:c.length=k)(hjk:J+k<=F.length)(hx:xs.length=n)(hle:off+n<=k)(hel:∀q,q<k->F[J+q]?=c[q]?):
  F.take J++(c.take off++xs++c.drop (off+n))++F.drop (J+k)=F.take (J+off)++xs++F.drop (J+off+n):=by
 have h1:F.take (J+off)=F.take J++c.take off:=by
  apply List.ext_getElem?;intro q
  by_cases q1:q<J
  ·rw[List.getElem?_append_left (by simp;omega),Qq68,Qr (by omega),Qq68,Qr q1]
  ·rw[List.getElem?_append_right (by simp;omega),Qq68,Qq68]
   have e:(F.take J).length=J:=by simp;omega
   rw[e]
   by_cases q2:q<J+off
   ·rw[Qr q2,Qr (by omega),<-hel _ (by omega)]
    congr 1;omega
   ·rw[Qs q2,Qs (by omega)]
 have h2:F.drop (J+off+n)=c.drop (off+n)++F.drop (J+k):=by
  apply List.ext_getElem?;intro q;rw[List.getElem?_drop]
  by_cases q1:q<k - (off+n)
  ·rw[List.getElem?_append_left (by simp;omega),List.getElem?_drop,<-hel _ (by omega)]
   congr 1;omega
  ·rw[List.getElem?_append_right (by simp;omega),List.getElem?_drop]
   have e:(c.drop (off+n)).length=k - (off+n):=by simp;omega
   rw[e];congr 1;omega
 rw[h1,h2];simp[QL]
def Mz{α:Type}(cur xs:List α)(p n m:Nat)(hx:xs.length=n)(h1:p+n<=m)(h2:m<=cur.length):
  (cur.take p++xs++cur.drop (p+n)).take m=(cur.take m).take p++xs++(cur.take m).drop (p+n):=by
 rw[List.take_take,Nat.min_eq_left (by omega),List.take_append,List.take_of_length_le (by simp;omega)]
 congr 1;have e:(cur.take p++xs).length=p+n:=by simp;omega
 rw[e,List.drop_take]
def ags(h:Rel E S a w L){t:TypeId}{y z:Operand}{y' z':bB}{i:TypeInfo}(ho:o.op= .store t y z)(hi:P.info? t=some i)(hy:bH y=some y')(hz:bH z=some z')
  (he:exec Γ nid S (.store i.size y' z')=some (x,wr)):Good P E S a w o x wr:=by
 have r:=h.jL hy;simp only[exec]at he;split at he
 ·rename_i hb;obtain⟨hl,h1⟩:=hb;have rz:=(h.jL hz).cells (λu hu=>QH.1 h1 u hu)
  have hs:(a.eval z).cells.size=i.size:=by have:=rz.1.1;simp at this;omega
  split at he
  ·rename_i id av off e;rw[e]at r;split at he
   ·rename_i hver;split at he
    ·rename_i cs hc;split at he
     ·rename_i hle;obtain⟨rfl,rfl⟩:=bZ he;obtain⟨hN,_⟩:=r.pP (show(S.gh L).V id=av from hver)
      obtain⟨b,hv,hL⟩:=h.yO r hver hc;obtain⟨b',cur,T,hL',hh,hr,hE⟩:=h.rY hN hc;rw[hL]at hL';simp only[Value.pointer.injEq,Qf,Addr.mk.injEq]at hL';obtain⟨rfl,_⟩:=hL';have hcl:cur.size=cs.length:=by have:=hr.1;simpa using this
      have hrun:=JE (P:=P) ho hi hv hh hs (by omega) rz.2
      obtain⟨h2,hs2,hg⟩:=h.vR (w':=w.setRow b (cur.toList.take off++(a.eval z).cells.toList++cur.toList.drop (off+i.size)).toArray) hN ⟨av,.box (iT cs off (z'.val S).cells)⟩ (L id) (.inl ⟨hver.symm,rfl,by rw[hc];rfl⟩) rfl rfl rfl (by simp)
       (λk hk hne=>setRow_other w b k _ (λek=>hne (by rw[hc];rfl) (by rw[hL,ek];rfl)))
       (λk _ hk=> .inl ⟨by rw[hc];rfl,hk⟩)
       (λhs2 hg=>⟨b,_,T,hL,setRow_heap w b cur _ T _ hh,hE,by
        have:=(hr.iT rz.1 off).mono hs2 hg
        simpa[hs]using this⟩)
      exact⟨_,_,_,undef,hrun,.inr ⟨rfl,rfl⟩,.undef,h2⟩
     ·cases he
    ·cases he
   ·cases he
  ·rename_i id av k j off e;rw[e]at r;have rz1:=rz.1.nz;have hl1:((z'.val S).cells.map nz).length=i.size:=by simpa using hl
   split at he
   ·rename_i hver;split at he
    ·rename_i e0 k' es hc;split at he
     ·rename_i hk;subst hk;split at he
      ·rename_i c hcj;split at he
       ·rename_i hle;obtain⟨rfl,rfl⟩:=bZ he;obtain⟨hN,hv⟩:=r.NW (show(S.gh L).V id=av from hver)
        obtain⟨vs,hown,hk,hr⟩:=h.lx hN hc;have hj:j<es.length:=(Qw.1 hcj).1;rcases hown.2 with⟨hL,h0⟩|⟨g,cap,cur,hL,hb1,hh,hnc,hcm,hcs,htake⟩
        ·omega
        rw[show(S.gh L).L id=L id from rfl,hL]at hv
        simp only[cd,Qe]at hv;have hck:c.length=k:=hk c (Q8 hcj)
        have hjk:j*k+k<=es.length*k:=by
         have:=Qq63 k (show j+1<=es.length by omega)
         rw[Qq73]at this;omega
        have hvl:vs.length=es.length*k:=hown.1;have hcapk:es.length*k<=cap*k:=Qq63 _ hnc;have hrun:=JE (P:=P) ho hi hv hh hs (by omega) rz.2
        have hsl:(iT c off ((z'.val S).cells.map nz)).length=k:=by simp[iT,hl1];omega
        have hk2:∀u∈es.set j (iT c off ((z'.val S).cells.map nz)),u.length=k:=by
         intro u hu;rcases List.mem_or_eq_of_mem_set hu with hu|hu
         ·exact hk u hu
         ·rw[hu,hsl]
        have hz2:((z'.val S).cells.map nz).length=(a.eval z).cells.toList.length:=rz1.1.symm
        have hfl:(es.set j (iT c off ((z'.val S).cells.map nz))).flatten=iT es.flatten (j*k+off) ((z'.val S).cells.map nz):=by rw[Gg es k j _ hk hsl hj,hsl];unfold iT;rw[hl1];exact Zp es.flatten c ((z'.val S).cells.map nz) k (j*k) off i.size hck (by rw[nk es k hk];exact hjk) hl1 (by omega) (AB es k j c hk hcj)
        have hset:(w.setRow g (cur.toList.take (j*k+off)++(a.eval z).cells.toList++cur.toList.drop (j*k+off+i.size)).toArray).ownsRow (fN E (L id)) e0 k (L id) (es.set j (iT c off ((z'.val S).cells.map nz))).length (vs.take (j*k+off)++(a.eval z).cells.toList++vs.drop (j*k+off+i.size)):=by
         refine⟨by simp[hvl,hs];omega,.inr ⟨g,cap,_,by rw[hL];simp,hb1,setRow_heap w g cur _ e0 _ hh,by simpa using hnc,hcm,by simp[hcs,hs];omega,?_⟩⟩
         simp only[QY];rw[<-htake];simpa using Mz cur.toList (a.eval z).cells.toList (j*k+off) i.size (es.length*k) (by simpa using hs) (by omega) (by simp[hcs];omega)
        obtain⟨h2,hs2,hg⟩:=h.vR (w':=w.setRow g (cur.toList.take (j*k+off)++(a.eval z).cells.toList++cur.toList.drop (j*k+off+i.size)).toArray) hN ⟨av,.row e0 k (es.set j (iT c off ((z'.val S).cells.map nz)))⟩ (L id) (.inl ⟨hver.symm,rfl,by rw[hc];rfl⟩) rfl rfl rfl (by simp)
         (λq hq hne=>setRow_other w g q _ (λek=>hne (by rw[hc];rfl) (by rw[hL,ek];rfl)))
         (λq _ hq=> .inl ⟨by rw[hc];rfl,hq⟩)
         (λhs2 hg=>⟨_,hset,hk2,by
          rw[hfl];have:=(hr.iT rz1 (j*k+off)).mono hs2 hg
          simpa[hs]using this⟩)
        exact⟨_,_,_,undef,hrun,.inr ⟨rfl,rfl⟩,.undef,h2⟩
       ·cases he
      ·cases he
     ·cases he
    ·cases he
   ·cases he
  ·cases he
 ·cases he
end
end
section
open Go.RowKit
section
variable {P : Program} {E : En} {S : St} {a : Act} {w : World} {L : Nat -> Value} {o : Oper} {x : PV} {wr : Option (Nat × gm)} {Γ : qv} {nid : Nat}
def DX(h:Rel E S a w L){y:Option Operand}{y':Option bB}(hy:y.mapM bH=some y'){d n:Int}(hn:vg S y' d=some n):
  (y=none/\n=d)\/∃z k,y=some z/\a.eval z= .int k n:=by
 cases y with
 |none=>simp at hy;subst hy;simp only[vg,Qf]at hn;exact .inl ⟨rfl,hn.symm⟩
 |some z=>
  simp only[Option.mapM_some,Option.map_eq_map,Qb]at hy;obtain⟨z',hz,rfl⟩:=hy;have r:=h.jL hz;simp only[vg]at hn;split at hn
  ·rename_i k m e;rw[e]at r;injection hn with hn
   subst hn;exact .inr ⟨z,k,rfl,r.jE⟩
  ·cases hn
def wy{α:Type}(k:Nat):∀(m:Nat) (fs:List (List α)),(∀u∈fs,u.length=k)->(fs.take m).flatten=fs.flatten.take (m*k)
 |0,fs,_|m+1,[],_=>by simp
 |m+1,u::us,hf=>by
  have hu:u.length=k:=hf u (by simp)
  simp only[List.take_succ_cons,List.flatten_cons,wy k m us (λq hq=>hf q (by simp[hq]))]
  rw[Qq73,Nat.one_mul,Nat.add_comm,<-hu,List.take_length_add_append]
def AA{α:Type}(k:Nat):∀(m:Nat) (fs:List (List α)),(∀u∈fs,u.length=k)->(fs.drop m).flatten=fs.flatten.drop (m*k)
 |0,fs,_|m+1,[],_=>by simp
 |m+1,u::us,hf=>by
  have hu:u.length=k:=hf u (by simp)
  simp only[List.drop_succ_cons,List.flatten_cons,AA k m us (λq hq=>hf q (by simp[hq]))]
  rw[Qq73,Nat.one_mul,Nat.add_comm,<-hu,List.drop_length_add_append]
def Le{t e:TypeId}{y:Operand}{lo hi:Option Operand}{i:TypeInfo}{ad:Option Addr}{n c:Nat}{l h:Int}(ho:o.op= .slice t y lo hi none)(ht:P.underlying t=some (.slice e))(hi':P.info? e=some i)
  (hv:a.eval y= .slice ad n c) (hlo:(lo=none/\l=0)\/∃z k,lo=some z/\a.eval z= .int k l) (hhi:(hi=none/\h=n)\/∃z k,hi=some z/\a.eval z= .int k h) (h0:0<=l) (h1:l<=h) (h2:h<=n) (h3:n<=c):
  (execOp a.eval o).run P w= .ok (.value (.slice (if c=l.toNat then ad else ad.map (·.add (l.toNat*i.size))) (h.toNat - l.toNat) (c - l.toNat))) w:=by
 have e1:0<=h:=by omega
 have e2:h<=(c:Int):=by omega
 have e3:l<=((h.toNat:Nat):Int):=by omega
 rcases hlo with⟨rfl,rfl⟩|⟨z,k,rfl,hz⟩<;>rcases hhi with⟨rfl,rfl⟩|⟨z2,k2,rfl,hz2⟩<;>
  simp[execOp,Instr.sliceAt,Instr.slice,run_underlying ht,Instr.sliceBounds,Instr.sliceBound,asIntOf,sizeOf,typeInfo, *]<;>omega
def ajw(h:Rel E S a w L){t e:TypeId}{y:Operand}{lo hi:Option Operand}{y':bB}{lo' hi':Option bB}{i:TypeInfo}(ho:o.op= .slice t y lo hi none)(ht:P.underlying t=some (.slice e))(hi0:P.info? e=some i)
  (hy:bH y=some y') (hlo:lo.mapM bH=some lo') (hhi:hi.mapM bH=some hi') (he:exec Γ nid S (.Jw i.size y' lo' hi')=some (x,wr)):Good P E S a w o x wr:=by
 have r:=h.jL hy;simp only[exec]at he;split at he
 ·rename_i es e0;rw[e0]at r;split at he
  ·rename_i hall;have hall':∀u∈es,u.length=i.size:=λu hu=>by have:=QH.1 hall u hu;simpa using this
   split at he
   ·rename_i l hh el eh;split at he
    ·rename_i hb;obtain⟨hb0,hb1,hb2⟩:=hb;obtain⟨rfl,rfl⟩:=bZ he;have hl:=DX h hlo (d:=0) (n:=l) (by unfold vg;exact el)
     have hh':=DX h hhi (d:=(es.length:Int)) (n:=hh) (by unfold vg;exact eh)
     have hlen:((es.take hh.toNat).drop l.toNat).length=hh.toNat - l.toNat:=by simp;omega
     rcases r.GA with⟨hv,h0⟩|⟨ad,c,k,vs,hv,hk,hr,hc,hn,hm⟩
     ·subst h0;refine Good.pure h (Le (n:=0) ho ht hi0 hv hl (by simpa using hh') hb0 hb1 (by simpa using hb2) (QI _)) ?_
      have e1:hh=0:=by simp at hb2;omega
      have e2:l=0:=by omega
      subst e1 e2;simpa using bp.slnil
     ·refine Good.pure h (Le ho ht hi0 hv hl hh' hb0 hb1 hb2 hn) ?_;rw[<-hlen];have hkk:∀u∈(es.take hh.toNat).drop l.toNat,u.length=i.size:=λu hu=>hall' u (Q1 (Q2 hu))
      have hfl:((es.take hh.toNat).drop l.toNat).flatten=(es.flatten.take (hh.toNat*i.size)).drop (l.toNat*i.size):=by
       have t1:∀(m:Nat) (fs:List (List PV)),(∀u∈fs,u.length=i.size)->(fs.take m).flatten=fs.flatten.take (m*i.size):=by
        intro m
        induction m with
        |zero=>intro fs _;simp
        |succ m ih=>
         intro fs hf
         cases fs with
         |nil=>simp
         |cons u us=>
          have hu:u.length=i.size:=hf u (by simp)
          simp only[List.take_succ_cons,List.flatten_cons,ih us (λq hq=>hf q (by simp[hq]))]
          rw[Qq73,Nat.one_mul,Nat.add_comm,<-hu,List.take_length_add_append]
       have t2:∀(m:Nat) (fs:List (List PV)),(∀u∈fs,u.length=i.size)->(fs.drop m).flatten=fs.flatten.drop (m*i.size):=by
        intro m
        induction m with
        |zero=>intro fs _;simp
        |succ m ih=>
         intro fs hf
         cases fs with
         |nil=>simp
         |cons u us=>
          have hu:u.length=i.size:=hf u (by simp)
          simp only[List.drop_succ_cons,List.flatten_cons,ih us (λq hq=>hf q (by simp[hq]))]
          rw[Qq73,Nat.one_mul,Nat.add_comm,<-hu,List.drop_length_add_append]
       rw[t2 _ _ (λu hu=>hall' u (Q1 hu)),t1 _ _ hall']
      have hr2:=(hr.take (hh.toNat*i.size)).drop (l.toNat*i.size);rw[<-hfl]at hr2
      by_cases hcl:c=l.toNat
      ·have hnil:(es.take hh.toNat).drop l.toNat=[]:=Qq67 (by rw[hlen];omega)
       rw[Qr hcl,hnil];exact .sl [] ad _ i.size [] (by simp) (by simp) (λj u hu=>by simp at hu) (λj p u hp=>by simp at hp) (QS _) (by omega)
      ·rw[Qs hcl];simp only[Qe];refine .sl _ _ _ i.size _ hkk hr2.1 (λj u hu=> ?_) hr2.2 (by rw[hlen];omega) (by omega)
       rw[add_add,KN];have h4:=gX hu;rw[Qq68]at h4;split at h4
       ·exact hc _ u h4
       ·cases h4
    ·cases he
   ·cases he
  ·cases he
 ·rename_i id av e0;rw[e0]at r;split at he
  ·rename_i hver;split at he
   ·rename_i e1 k' es hcc;split at he
    ·rename_i hkk;subst hkk;split at he
     ·rename_i l hh el eh;split at he
      ·rename_i hb;obtain⟨hb0,hb1,hb2⟩:=hb;obtain⟨rfl,rfl⟩:=bZ he;obtain⟨hN,hv⟩:=r.n4 (show(S.gh L).V id=av from hver)
       obtain⟨vs,hown,hk,hr⟩:=h.lx hN hcc;have hl:=DX h hlo (d:=0) (n:=l) el;have hh':=DX h hhi (d:=(es.length:Int)) (n:=hh) eh
       have hL:∃ad c,L id= .slice ad es.length c/\es.length<=c:=by
        rcases hown.2 with⟨hL,h0⟩|⟨g,cap,cur,hL,_,_,hnc,_⟩
        ·exact⟨none,0,by rw[hL,h0],by omega⟩
        ·exact⟨_,cap,hL,hnc⟩
       obtain⟨ad,c,hL,hc⟩:=hL;rw[show(S.gh L).L id=L id from rfl,hL]at hv
       refine Good.pure h (Le ho ht hi0 hv hl hh' hb0 hb1 hb2 hc) ?_;refine .view _ _ _ _ _ _ _ hN (Nat.le_of_eq hver.symm) (λ_=>⟨ad,es.length,c,hL,by omega,hc,rfl,?_⟩)
       by_cases h0:c=l.toNat
       ·rw[Qr h0]
        by_cases h1:l.toNat=0
        ·right;rw[h1];cases ad<;>simp[Addr.add]
        ·left;exact⟨by omega,h1,λe=>e⟩
       ·rw[Qs h0];right;rfl
      ·cases he
     ·cases he
    ·cases he
   ·cases he
  ·cases he
 ·rename_i id av k0 lo0 n0 e0;rw[e0]at r;split at he
  ·rename_i hver;split at he
   ·rename_i e1 k' es hcc;split at he
    ·rename_i hkk;obtain⟨hk1,hk2⟩:=hkk;subst hk2;split at he
     ·rename_i l hh el eh;split at he
      ·rename_i hb;obtain⟨hb0,hb1,hb2⟩:=hb;obtain⟨rfl,rfl⟩:=bZ he;obtain⟨hN,ad,c,hv,a0,m0,c0,hL,q1,q2,q3,q4⟩:=r.Bl (show(S.gh L).V id=av from hver)
       have hl:=DX h hlo (d:=0) (n:=l) el;have hh':=DX h hhi (d:=(n0:Int)) (n:=hh) eh;refine Good.pure h (Le ho ht hi0 hv hl hh' hb0 hb1 hb2 (by omega)) ?_
       refine .view _ _ _ _ _ _ _ hN (Nat.le_of_eq hver.symm) (λ_=>⟨a0,m0,c0,hL,by omega,q2,by omega,?_⟩)
       by_cases h0:c=l.toNat
       ·rw[Qr h0]
        by_cases h1:lo0+l.toNat=0
        ·right;rcases q4 with q4|q4
         ·omega
         ·rw[q4];have e1:lo0=0:=by omega
          have e2:l.toNat=0:=by omega
          rw[e1,e2]
        ·left;refine⟨by omega,h1,λe=> ?_⟩
         rcases q4 with q4|q4
         ·exact q4.2.2 e
         ·rw[q4]at e;cases a0<;>first|rfl|cases e
       ·rw[Qs h0];rcases q4 with q4|q4
        ·left;refine⟨by omega,by omega,λe=>q4.2.2 ?_⟩
         cases ad<;>first|rfl|cases e
        ·right;rw[q4];cases a0<;>simp[add_add,Qq73]
      ·cases he
     ·cases he
    ·cases he
   ·cases he
  ·cases he
 ·cases he
def LS{base:Nat}{t ty e:TypeId}{i:TypeInfo}{size:Nat}(ht:P.underlying t=some (.slice e))(hi:P.info? e=some i)
  {v:Value} {n:Nat} {xs:List Value} (hown:w.ownsRow base e size v n xs) (c:Nat):(Builtin.append_ #[t,t] ty #[v,.slice none 0 c]).run P w= .ok v w:=by
 rcases hown.2 with⟨rfl,rfl⟩|⟨g,cap,cur,rfl,_,_,hnc,_⟩
 ·simp[Builtin.append_,run_underlying ht,sizeOf,typeInfo,hi,Builtin.lenOf,Builtin.firstCells]
 ·simp[Builtin.append_,run_underlying ht,sizeOf,typeInfo,hi,Builtin.lenOf,Builtin.firstCells,hnc,storeCells]
def Rel.MR(h:Rel E S a w L){y:PV}{v:Value}{es:List (List PV)}(r:bp w (bl E S L) (S.gh L) y v)(he:kR S y=some es):
  (v= .slice none 0 0/\es=[])\/∃(ad:Addr) (c:Nat) (vs:List Value),v= .slice (some ad) es.length c/\bo w (bl E S L) (S.gh L) es.flatten vs/\(∀(i:Nat) (u:Value),vs[i]?=some u->w.cell? (ad.add i)=some u):=by
 unfold kR at he;split at he
 ·injection he with he;subst he;exact .inl ⟨r.ud,rfl⟩
 ·injection he with he;subst he
  rcases r.GA with⟨hv,h0⟩|⟨ad,c,k,vs,hv,hk,hr,hc,_⟩
  ·exact .inl ⟨hv,h0⟩
  ·exact .inr ⟨ad,c,vs,hv,hr.mono (cZ.of λ_ hm=>hm) (ed.le _),λi u hu=>(hc i u hu).1⟩
 ·rename_i id av;split at he
  ·rename_i hver;split at he
   ·rename_i hc;injection he with he;subst he
    obtain⟨hN,hv⟩:=r.n4 (show(S.gh L).V id=av from hver)
    obtain⟨vs,hown,hk,hr⟩:=h.lx hN hc;rcases hown.2 with⟨hL,h0⟩|⟨g,cap,cur,hL,_,hh,_,_,_,htake⟩
    ·exact .inl ⟨by rw[hv];exact hL,Qq67 h0⟩
    ·refine .inr ⟨⟨g,0,none⟩,cap,vs,by rw[hv];exact hL,hr,λi u hu=> ?_⟩
     exact hown.cells (g:=g) (by rw[hL];rfl) i u hu
   ·cases he
  ·cases he
 ·rename_i id av k lo n;split at he
  ·rename_i hver;split at he
   ·rename_i e1 k' es0 hc;split at he
    ·rename_i hb;subst hb;injection he with he;subst he
     obtain⟨hN,ad,c,hv,hat⟩:=r.Bl (show(S.gh L).V id=av from hver)
     have hb:=h.K5 hN hc hat;obtain⟨a0,m0,c0,hL,q1,q2,q3,q4⟩:=hat;obtain⟨vs,hown,hk,hr⟩:=h.lx hN hc;have hL:L id= .slice a0 m0 c0:=hL;have hlen:((es0.drop lo).take n).length=n:=by simp;omega
     rcases hown.2 with⟨hL',h0⟩|⟨g,cap,cur,hL',_,hh,_,_,_,htake⟩
     ·have:es0=[]:=Qq67 h0;subst this;rw[hL']at hL;injection hL with e1 e2 e3
      subst e1 e2 e3;left;have hn0:n=0:=by omega
      have hl0:lo=0:=by omega
      subst hn0 hl0;rcases q4 with q4|q4
      ·exact absurd rfl q4.2.1
      ·subst q4;rw[hv,q3];exact⟨by simp,by simp⟩
     ·rw[hL']at hL;injection hL with e1 e2 e3
      subst e1 e2 e3
      have hfl:((es0.drop lo).take n).flatten=(es0.flatten.drop (lo*k')).take (n*k'):=by rw[wy k' n _ (λu hu=>hk u (Q2 hu)),AA k' lo _ hk]
      have hr2:=(hr.drop (lo*k')).take (n*k');rw[<-hfl]at hr2
      by_cases hn0:n=0
      ·subst hn0
       cases ad with
       |none=>
        rcases q4 with q4|q4
        ·cases q4.2.2 rfl
        ·cases q4
       |some ad=>right;exact⟨ad,c,[],by rw[hv];simp,by simpa using bo.nil,λi u hu=>by simp at hu⟩
      ·rcases q4 with q4|q4
       ·omega
       ·right;refine⟨⟨g,lo*k',none⟩,c,_,by rw[hv,hlen,q4];simp[add_mid],hr2,λi u hu=> ?_⟩
        rw[add_mid];refine rX hh ?_;rw[Qq68]at hu;split at hu
        ·have hu:=gX hu;rw[<-htake,Qq68]at hu;split at hu
         ·exact hu
         ·cases hu
        ·cases hu
    ·cases he
   ·cases he
  ·cases he
 ·cases he
def nF{v:Value}{ad:Option Addr}{n c:Nat}(h:v= .slice ad n c):v.ownBlock=cd v:=by subst h;cases ad<;>rfl
def ES{P:Program}(w:World)(base:Nat)(t ty e:TypeId)(i:TypeInfo)(z:Value)(size bytes:Nat)(ht:P.underlying t=some (.slice e))(hi:P.info? e=some i)(hz:i.zero=some z)
  (hsize:i.size=size) (hby:i.bytes=bytes) (hsz:0<size)
  (v:Value) (n:Nat) (xs:List Value) (hown:w.ownsRow base e size v n xs)
  (a:Addr) (m c:Nat) (news:List Value) (hl:news.length=m*size) (hnews:∀j u,news[j]?=some u->w.cell? (a.add j)=some u) (h1:∀u∈news,u.oneCell'=true)
  (h63:n+m<=maxLen) (hbytes:(n+m)*bytes<=140737488355328) {v':Value} {w':World} (hrun:(Builtin.append_ #[t,t] ty #[v,.slice (some a) m c]).run P w= .ok v' w'):w.drawn<=w'.drawn:=by
 subst hsize;subst hby;have hsmall:n+m<=9223372036854775807:=by simp only[maxLen]at h63;omega
 have fin:∀{u:Value} {W:World},(Builtin.append_ #[t,t] ty #[v,.slice (some a) m c]).run P w= .ok u W->w.drawn<=W.drawn->w.drawn<=w'.drawn:=λh hd=>by
  rw[h]at hrun;injection hrun with _ h2
  rw[<-h2];exact hd
 rcases hown.2 with⟨rfl,rfl⟩|⟨g,cap,cur,rfl,hbg,hg,hnc,hcm,hcs,htake⟩
 ·by_cases hm:m=0
  ·subst hm;have hn:news=[]:=Qq67 (by simpa using hl)
   refine fin (u:= .slice none 0 0) (W:=w) ?_ (QI _);simp[Builtin.append_,run_underlying ht,sizeOf,typeInfo,hi,Builtin.lenOf,Builtin.firstCells,loadCells,loadCellsFrom]
  ·exact fin (run_append_nil (P:=P) w t ty e i z ht hi hz a m c news hl hnews (by omega) (by omega) (by have hb:=hbytes;simp only[Nat.zero_add]at hb;omega)) (Nat.le_succ _)
 ·by_cases hroom:n+m<=cap
  ·have hfit:n*i.size+news.length<=cur.size:=by rw[hl,hcs,<-Qq73];exact Qq63 _ hroom
   exact fin (run_append_room (P:=P) w t ty e i ht hi g n cap cur hg a m c news hl hnews h1 hroom hfit) (QI _)
  ·have holds:∀j u,xs[j]?=some u->w.cell? ((⟨g,0,none⟩:Addr).add j)=some u:=hown.cells (g:=g) rfl;exact fin (run_append_grow (P:=P) w t ty e i z ht hi hz ⟨g,0,none⟩ n cap xs hown.1 holds a m c news hl hnews (by omega) (by omega) (growslice_fits (by omega) hbytes)) (Nat.le_succ _)
def ae5(h:Rel E S a w L)(hn:nid<S.N){t e:TypeId}{y z:Operand}{y' z':bB}{i:TypeInfo}{zv:Value}(ho:o.op= .call {callee:= .builtin .append,args:=#[y,z],argTypes:=#[t,t]})(ht:P.underlying t=some (.slice e))(hi:P.info? e=some i)
  (hzv:i.zero=some zv) (hzs:zv.cells.size=i.size) (hsz:0<i.size) (hy:bH y=some y') (hz:bH z=some z') (he:exec Γ nid S (.cz false e i.size i.bytes y' z')=some (x,wr)):Good P E S a w o x wr:=by
 have ry:=h.jL hy;have rz:=h.jL hz
 have hexec:∀(r:Result Value),(Builtin.append_ #[t,t] o.type #[a.eval y,a.eval z]).run P w=r->(execOp a.eval o).run P w=r.andThen λv w'=> .ok (.value v) w':=by intro r hr;simp[execOp,ho,resolve,invoke,builtin,hr]
 simp only[exec,KP]at he;split at he
 ·rename_i news hnews;split at he
  ·rename_i hall;have hall':∀u∈news,u.length=i.size/\u.all PV.one=true:=λu hu=>by have:=QH.1 hall u hu;simpa using this
   have hnl:news.flatten.length=news.length*i.size:=nk news i.size (λu hu=>(hall' u hu).1)
   have hone:∀{vs:List Value},bo w (bl E S L) (S.gh L) news.flatten vs->∀u∈vs,u.oneCell'=true:=by
    intro vs hr u hu;obtain⟨q,hq,rfl⟩:=List.mem_iff_getElem.1 hu;have hx:q<news.flatten.length:=by rw[<-hr.1];exact hq
    have hm:news.flatten[q]∈news.flatten:=Q0 hx;obtain⟨el,hel,hmem⟩:=List.mem_flatten.1 hm;exact((hr.2 q _ _ (Qv hx) (Qv hq)).one (QH.1 (hall' el hel).2 _ hmem)).1
   have main:∀(id0:Nat) (hid:id0<S.N) (es:List (List PV)) (ver':Nat) (v:Value) (vs:List Value),a.eval y=v->w.ownsRow (fN E v) e i.size v es.length vs->bo w (bl E S L) (S.gh L) es.flatten vs->
     (∀u∈es,u.length=i.size)->(S.H id0).av<ver'->(∀b,v.ownBlock=some b->(S.H id0).c.live=true/\cd (L id0)=some b)->es.length+news.length<=maxLen->(es.length+news.length)*i.bytes<=140737488355328->
     Good P E S a w o (.own id0 ver') (some (id0,⟨ver',.row e i.size (es++news)⟩)):=by
    intro id0 hid es ver' v vs hv hown hr hk hver hblk hmax hby
    have hk2:∀u∈es++news,u.length=i.size:=λu hu=>by
     rcases Qz.1 hu with hu|hu
     ·exact hk u hu
     ·exact(hall' u hu).1
    have hrun:∃v' w' us,(Builtin.append_ #[t,t] o.type #[a.eval y,a.eval z]).run P w= .ok v' w'/\w'.ownsRow (fN E v) e i.size v' (es.length+news.length) (vs++us)/\w.grownBy w' v.ownBlock/\
      (v'.ownBlock=v.ownBlock\/v'.ownBlock=some w.heap.size)/\bo w (bl E S L) (S.gh L) news.flatten us/\w.drawn<=w'.drawn:=by
     rcases h.MR rz hnews with⟨hvz,hnil⟩|⟨ad,c,us,hvz,hrz,hcz⟩
     ·subst hnil;refine⟨v,w,[],by rw[hv,hvz];exact LS ht hi hown 0,by simpa using hown,World.grownBy.refl w _,.inl rfl,bo.nil,QI _⟩
     ·have hus:us.length=news.length*i.size:=by rw[hrz.1,hnl]
      obtain⟨v',w',h1,h2,h3,_,h5⟩:=run_append_own_at (P:=P) w (fN E v) t o.type e i zv i.size i.bytes ht hi hzv rfl rfl hzs hsz v es.length vs hown ad news.length c us hus hcz (hone hrz) hmax hby (QK (OE E v) h.fr.size);exact⟨v',w',us,by rw[hv,hvz];exact h1,h2,h3,h5,hrz,ES w (fN E v) t o.type e i zv i.size i.bytes ht hi hzv rfl rfl hsz v es.length vs hown ad news.length c us hus hcz (hone hrz) hmax hby h1⟩
    obtain⟨v',w',us,hr1,hown',hgr,hat,hru,hdrw⟩:=hrun
    have hv':∃ad n c,v'= .slice ad n c:=by
     rcases hown'.2 with⟨rfl,_⟩|⟨g,cap,cur,rfl,_⟩
     ·exact⟨_,_,_,rfl⟩
     ·exact⟨_,_,_,rfl⟩
    obtain⟨ad',n',c',hv'⟩:=hv'
    have hvb:∃ad n c,v= .slice ad n c:=by
     rcases hown.2 with⟨rfl,_⟩|⟨g,cap,cur,rfl,_⟩
     ·exact⟨_,_,_,rfl⟩
     ·exact⟨_,_,_,rfl⟩
    obtain⟨ad0,n0,c0,hv0⟩:=hvb
    have hown':w'.ownsRow (fN E v') e i.size v' (es.length+news.length) (vs++us):=by
     rcases hat with hat|hat
     ·rw[CX (v:=v') (v':=v) (by rw[<-nF hv',<-nF hv0,hat])]
      exact hown'
     ·refine⟨hown'.1,?_⟩;rcases hown'.2 with hnil|⟨g,cap,cur,e1,e2,e3⟩
      ·exact .inl hnil
      ·rw[nF hv']at hat;have hg:g=w.heap.size:=by rw[e1]at hat;simpa[cd]using hat
       refine .inr ⟨g,cap,cur,e1,?_,e3⟩;rw[MA hat h.fr.size,hg];exact h.fr.size
    obtain⟨h2,hs2,hg2⟩:=h.vR (w':=w') (hdr:=DL.of hdrw) hid ⟨ver',.row e i.size (es++news)⟩ v' (.inr hver) hgr.os hgr.tape hgr.output hgr.size
     (λb hb hne=>hgr.block b hb (λeb=>by
      obtain⟨q1,q2⟩:=hblk b eb.symm
      exact hne q1 q2))
     (λb _ hb=>by
      rw[<-nF hv']at hb;rcases hat with hat|hat
      ·rw[hat]at hb;exact .inl (hblk b hb)
      ·rw[hat]at hb;injection hb with hb
       exact .inr (by omega))
     (λhs2 hg2=>⟨vs++us,by simpa using hown',hk2,by simp only[List.flatten_append];exact(hr.append hru).mono hs2 hg2⟩)
    refine⟨_,w',_,v',by rw[hexec _ hr1];rfl,.inl rfl,?_,h2⟩
    subst hv';exact .own _ _ _ _ _ hid (by simp[St.gh,St.fl,ct]) (λ_=>by simp[St.gh,St.fl,ct])
   split at he
   ·rename_i ey;rw[ey]at ry;split at he
    ·rename_i hb;obtain⟨rfl,rfl⟩:=bZ he;have:=main nid hn [] ((S.H nid).av+1) (.slice none 0 0) [] ry.ud (World.ownsRow_nil w _ _ _) bo.nil (by simp) (Nat.lt_succ_self _) (λb hb=>by simp[Value.ownBlock]at hb) (by simpa using hb.2) (by simpa using hb.1)
     simpa using this
    ·cases he
   ·rename_i id av ey;rw[ey]at ry;split at he
    ·rename_i hver;split at he
     ·rename_i e' k' es hc;split at he
      ·rename_i hb;obtain⟨rfl,rfl,hby,hmax⟩:=hb;obtain⟨rfl,rfl⟩:=bZ he;obtain⟨hN,hv⟩:=ry.n4 (show(S.gh L).V id=av from hver)
       obtain⟨vs,hown,hk,hr⟩:=h.lx hN hc
       have hLs:∃ad n c,L id= .slice ad n c:=by
        rcases hown.2 with⟨hL,_⟩|⟨g,cap,cur,hL,_⟩
        ·exact⟨_,_,_,hL⟩
        ·exact⟨_,_,_,hL⟩
       obtain⟨ad0,n0,c0,hL0⟩:=hLs;exact main id hN es (av+1) (L id) vs hv hown hr hk (by omega) (λb hb=>⟨by rw[hc];rfl,by rw[nF hL0]at hb;exact hb⟩) hmax hby
      ·cases he
     ·cases he
    ·cases he
   ·cases he
  ·cases he
 ·cases he
def RG(z:Array Value)(n:Nat):(Builtin.zeroCells z n).toList=(replicate n z.toList).flatten:=by
 unfold Builtin.zeroCells
 by_cases hz:0<z.size
 ·exact J5 z hz n
 ·have h0:z.size=0:=by omega
  have hz:z=#[]:=Array.eq_empty_of_size_eq_zero h0;subst hz;simp
def agw(h:Rel E S a w L){t e:TypeId}{y:Operand}{y':bB}{i:TypeInfo}{zc:List PV}(ho:o.op= .call {callee:= .builtin .clear,args:=#[y],argTypes:=#[t]})(ht:P.underlying t=some (.slice e))(hi:P.info? e=some i)
  (hz:w4 P e=some zc) (hy:bH y=some y') (he:exec Γ nid S (.clear i.size zc y')=some (x,wr)):Good P E S a w o x wr:=by
 have r:=h.jL hy;simp only[exec]at he;split at he
 case h_2=>cases he
 rename_i id av k0 lo n e0;rw[e0]at r;split at he
 case isFalse=>cases he
 rename_i hver;split at he
 case h_2=>cases he
 rename_i e1 k' es hc;split at he
 case isFalse=>cases he
 rename_i hb;obtain⟨hk1,hk2,hk3,hone⟩:=hb;subst hk2;subst hk1;obtain⟨rfl,rfl⟩:=bZ he;obtain⟨hN,ad,c,hv,hat⟩:=r.Bl (show(S.gh L).V id=av from hver)
 have hlen:=h.K5 hN hc hat;obtain⟨a0,m0,c0,hL,q1,q2,q3,q4⟩:=hat;have hL:L id= .slice a0 m0 c0:=hL;obtain⟨vs,hown,hk,hr⟩:=h.lx hN hc;obtain⟨i',v,hi',hv0,hs,hrz⟩:=D4 (P:=P) (w:=w) (M:=bl E S L) (G:=S.gh L) hz;rw[hi]at hi';injection hi' with hi'
 subst hi'
 have hkz:∀u∈es.take lo++replicate n (zc.map nz)++es.drop (lo+n),u.length=i.size:=by
  intro u hu;simp only[Qz]at hu;rcases hu with(hu|hu)|hu
  ·exact hk u (Q1 hu)
  ·rw[(List.mem_replicate.1 hu).2,QC,hk3]
  ·exact hk u (Q2 hu)
 have hlz:(es.take lo++replicate n (zc.map nz)++es.drop (lo+n)).length=es.length:=by simp;omega
 have hfl:(es.take lo++replicate n (zc.map nz)++es.drop (lo+n)).flatten=es.flatten.take (lo*i.size)++(replicate n (zc.map nz)).flatten++es.flatten.drop (lo*i.size+n*i.size):=by rw[List.flatten_append,List.flatten_append,wy i.size lo es hk,AA i.size (lo+n) es hk,Qq73]
 have hrn:bo w (bl E S L) (S.gh L) (replicate n (zc.map nz)).flatten (replicate n v.cells.toList).flatten:=yy hrz.nz n;have hnl:(replicate n v.cells.toList).flatten.length=n*i.size:=by rw[nk _ i.size (λu hu=>by rw[(List.mem_replicate.1 hu).2];simpa using hs)];simp
 by_cases hn0:n=0
 ·subst hn0;have hsame:es.take lo++replicate 0 (zc.map nz)++es.drop (lo+0)=es:=by simp
  rw[hsame]
  obtain⟨h2,hs2,hg⟩:=h.vR (w':=w) hN ⟨av,.row e1 i.size es⟩ (L id) (.inl ⟨hver.symm,rfl,by rw[hc];rfl⟩) rfl rfl rfl (QI _)
   (λq hq _=>rfl) (λq _ hq=> .inl ⟨by rw[hc];rfl,hq⟩) (λhs2 hg=>⟨vs,hown,hk,hr.mono hs2 hg⟩)
  refine⟨_,w,_,.tuple #[],?_,.inl rfl,.eN [] [] rfl (λj p u hp=>by simp at hp),h2⟩
  cases ad<;>simp[execOp,ho,resolve,invoke,builtin,Builtin.clear_,run_underlying ht,hv]
 ·rcases hown.2 with⟨hL',h0⟩|⟨g,cap,cur,hL',hb1,hh,hnc,hcm,hcs,htake⟩
  ·omega
  rw[hL']at hL;injection hL with e2 e3 e4
  subst e2 e3 e4;rcases q4 with q4|q4
  ·omega
  have hone':∀u∈(replicate n v.cells.toList).flatten,u.oneCell'=true:=by
   intro u hu;obtain⟨l,hl,hul⟩:=List.mem_flatten.1 hu;rw[(List.mem_replicate.1 hl).2]at hul;obtain⟨q,hq,rfl⟩:=List.mem_iff_getElem.1 hul;have hx:q<zc.length:=by rw[<-hrz.1];exact hq
   exact((hrz.2 q _ _ (Qv hx) (Qv hq)).one (QH.1 hone _ (Q0 hx))).1
  have hcl:lo*i.size+n*i.size<=cur.size:=by rw[hcs,<-Qq73];exact Qq63 _ (by omega)
  have hst:=run_storeCells_at (P:=P) g (lo*i.size) e1 (replicate n v.cells.toList).flatten 0 cur w hh (by rw[hnl];omega) hone'
  simp only[Nat.add_zero,hnl]at hst;have hz0:(Builtin.zeroCells v.cells n).toList=(replicate n v.cells.toList).flatten:=RG _ _
  have hset:(w.setRow g (cur.toList.take (lo*i.size)++(replicate n v.cells.toList).flatten++cur.toList.drop (lo*i.size+n*i.size)).toArray).ownsRow (fN E (L id)) e1 i.size (L id) (es.take lo++replicate n (zc.map nz)++es.drop (lo+n)).length (vs.take (lo*i.size)++(replicate n v.cells.toList).flatten++vs.drop (lo*i.size+n*i.size)):=by
   have hvl:vs.length=es.length*i.size:=hown.1;have hle:lo*i.size+n*i.size<=es.length*i.size:=by rw[<-Qq73];exact Qq63 _ hlen
   rw[hlz]
   refine⟨by simp only[QB,List.length_take,List.length_drop,hnl,hvl];omega,.inr ⟨g,cap,_,hL',hb1,setRow_heap w g cur _ e1 _ hh,hnc,hcm,by
    rw[hcs]at hcl;simp only[List.size_toArray,QB,List.length_take,List.length_drop,Array.length_toList,hnl,hcs]
    omega,?_⟩⟩
   rw[<-htake];have hce:es.length*i.size<=cur.size:=by rw[hcs];exact Qq63 _ hnc
   simpa using Mz cur.toList (replicate n v.cells.toList).flatten (lo*i.size) (n*i.size) (es.length*i.size) hnl hle (by simpa using hce)
  obtain⟨h2,hs2,hg⟩:=h.vR (w':=w.setRow g (cur.toList.take (lo*i.size)++(replicate n v.cells.toList).flatten++cur.toList.drop (lo*i.size+n*i.size)).toArray) hN
   ⟨av,.row e1 i.size (es.take lo++replicate n (zc.map nz)++es.drop (lo+n))⟩ (L id) (.inl ⟨hver.symm,rfl,by rw[hc];rfl⟩) rfl rfl rfl (by simp)
   (λq hq hne=>setRow_other w g q _ (λek=>hne (by rw[hc];rfl) (by rw[hL',ek];rfl)))
   (λq _ hq=> .inl ⟨by rw[hc];rfl,hq⟩)
   (λhs2 hg=>⟨_,hset,hkz,by
    rw[hfl];have h5:=(((hr.take (lo*i.size)).append hrn).append (hr.drop (lo*i.size+n*i.size))).mono hs2 hg
    exact h5⟩)
  refine⟨_,_,_,.tuple #[],?_,.inl rfl,.eN [] [] rfl (λj p u hp=>by simp at hp),h2⟩
  have hv':a.eval y= .slice (some ⟨g,lo*i.size,none⟩) n c:=by rw[hv,q4];simp[add_mid]
  have hnn:∃m,n=m+1:=⟨n - 1,by omega⟩
  obtain⟨m,rfl⟩:=hnn;simp[execOp,ho,resolve,invoke,builtin,Builtin.clear_,run_underlying ht,hv',zeroValue,typeInfo,hi,hv0,hz0,hst]
def yx{P:Program}(w:World)(dT sT ty elem:TypeId)(g o dLen dCap:Nat)(a:Addr)(sLen sCap:Nat)(cur:Array Value)(t:TypeId)(cs:List Value)(size n:Nat)
  (hu:P.underlying dT=some (.slice elem)) (hs:(P.info? elem).map (·.size)=some size)
  (hg:w.heap[g]?=some (.cells cur t (0,0))) (hn:n=Nat.min sLen dLen) (hcl:cs.length=n*size)
  (hsrc:∀(j:Nat) (v:Value),cs[j]?=some v->w.cell? (a.add j)=some v) (hfit:o+cs.length<=cur.size) (h1:∀v∈cs,v.oneCell'=true):
  (Builtin.copy_ #[dT,sT] ty #[.slice (some ⟨g,o,none⟩) dLen dCap,.slice (some a) sLen sCap]).run P w=
   .ok (goInt n) (w.setRow g (cur.toList.take o++cs++cur.toList.drop (o+cs.length)).toArray):=by
 have hl:=run_loadCells_list (P:=P) w a cs hsrc;have hst:=run_storeCells_at P g o t cs 0 cur w hg (by simpa using hfit) h1
 rw[hcl]at hl
 cases hq:P.info? elem with
 |none=>simp[hq]at hs
 |some i=>
  have hi:i.size=size:=by simpa[hq]using hs
  simp[Builtin.copy_,run_underlying hu,Builtin.lenOf,Builtin.firstCells,sizeOf,typeInfo,hq,hi,<-hn,hl,hst]
def ahi{P:Program}(w:World)(dT sT ty elem:TypeId)(d a:Option Addr)(dLen dCap sLen sCap:Nat){i:TypeInfo}(hu:P.underlying dT=some (.slice elem))(hq:P.info? elem=some i)(hn:Nat.min sLen dLen=0):
  (Builtin.copy_ #[dT,sT] ty #[.slice d dLen dCap,.slice a sLen sCap]).run P w= .ok (goInt 0) w:=by
 have hl:∀(x:Addr),(loadCells x 0).run P w= .ok #[] w:=λx=>by simpa using run_loadCells_list (P:=P) w x [] (by simp)
 cases d<;>cases a<;>simp[Builtin.copy_,run_underlying hu,Builtin.lenOf,Builtin.firstCells,sizeOf,typeInfo,hq,hn,storeCells,hl]
def YP(h:Rel E S a w L){neg:Bool}{t t2 e:TypeId}{y:Operand}{y':bB}(ho:o.op= .binOp (if neg then .neq else .eql) t y (.const (.slice none 0 0)) t2)(ht:P.underlying t=some (.slice e))(hy:bH y=some y')
  (he:exec Γ nid S (.As neg y')=some (x,wr)):Good P E S a w o x wr:=by
 have r:=h.jL hy
 have key:∀(ad:Option Addr) (n c:Nat),a.eval y= .slice ad n c->(execOp a.eval o).run P w= .ok (.value (.bool (xor neg ad.isNone))) w:=by
  intro ad n c hv;have hc:a.eval (.const (.slice none 0 0))= .slice none 0 0:=rfl;have hq:=run_equal_slice_nil (P:=P) w t e ad n c ht;have hg:∀op,(eqGuard op t y (.const (.slice none 0 0)) (.slice ad n c) (.slice none 0 0)).run P w= .ok () w:=by intro op;cases op<;>simp[eqGuard]
  cases neg
  ·simp only[Qq,Qu]at ho;simp only[execOp,ho,hv,hc,Sem.run_bind,hg,Result.andThen_ok,binOp,hq,Sem.run_pure];simp
  ·simp only[Qt]at ho;simp only[execOp,ho,hv,hc,Sem.run_bind,hg,Result.andThen_ok,binOp,hq,Sem.run_pure];simp
 simp only[exec]at he;split at he
 ·rename_i e0;rw[e0]at r;obtain⟨rfl,rfl⟩:=bZ he;exact Good.pure h (key none 0 0 r.ud) (by cases neg<;>exact .bool _)
 ·split at he
  ·rename_i hes;obtain⟨rfl,rfl⟩:=bZ he;obtain⟨ad,c,hv⟩:=h.WJ r hes;exact Good.pure h (key ad _ c hv) (.gL _)
  ·rename_i u us hes;obtain⟨rfl,rfl⟩:=bZ he;rcases h.MR r hes with⟨_,h0⟩|⟨ad,c,vs,hv,_⟩
   ·cases h0
   ·exact Good.pure h (key (some ad) _ c hv) (by cases neg<;>exact .bool _)
  ·cases he
end
end
section
open Go.RowKit
section
variable {P : Program} {E : En} {S : St} {a : Act} {w : World} {L : Nat -> Value} {o : Oper} {x : PV} {wr : Option (Nat × gm)} {Γ : qv} {nid : Nat}
def Zr{t:TypeId}{fs:Array Field}{f g:Field}{k0 k:IntKind}{p q:Int}{s u:ByteArray}(ht:P.underlying t=some (.struct fs))(hfs:fs.toList=[f,g])(hf:P.underlying f.type=some (.int k0))(hg:P.underlying g.type=some .string)
  (h0:f.offset=0) (h1:g.offset=1) (hn0:f.name≠ "_") (hn1:g.name≠ "_") (hst:P.stoodInHeld t=false) (d:Nat):
  (Op.equalIn (d+2) t (.agg #[.int k p,.string s]) (.agg #[.int k q,.string u])).run P w= .ok (decide (p=q)&&decide (s=u)) w:=by
 have hfo:P.fieldsOf t=fs:=by simp[Program.fieldsOf,ht]
 have hi0:(isAgg f.type).run P w= .ok false w:=by simp[isAgg,run_underlying hf]
 have hi1:(isAgg g.type).run P w= .ok false w:=by simp[isAgg,run_underlying hg]
 have p0:∀v u:Value,(part f.type #[v,u] 0).run P w= .ok v w:=λv u=>by simp[part,hi0]
 have p1:∀v u:Value,(part g.type #[v,u] 1).run P w= .ok u w:=λv u=>by simp[part,hi1]
 rw[run_equalIn_struct w (d+1) t _ _ (by rw[hfo];exact ht) hst,hfo,hfs]
 have q0:=run_equalIn_int (P:=P) w d f.type k k0 p q hf;have q1:=run_equalIn_string (P:=P) w d g.type s u hg;rw[toList_eq_iff]at q1
 by_cases hpq:p=q
 ·subst hpq;simp[Op.eqFields,hn0,hn1,h0,h1,p0,p1,q0,q1]
  by_cases hsu:s=u<;>simp[hsu]
 ·have:(p==q)=false:=by simp[hpq]
  rw[this]at q0;simp[Op.eqFields,hn0,h0,p0,q0,hpq]
def ae2(h:Rel E S a w L){neg:Bool}{y z:Operand}{y' z':bB}{t t2:TypeId}(ho:o.op= .binOp (if neg then .neq else .eql) t y z t2)(ht:P.underlying t=some .bool)
  (hy:bH y=some y') (hz:bH z=some z') (he:exec Γ nid S (.KB neg y' z')=some (x,wr)):Good P E S a w o x wr:=by
 have ry:=h.jL hy;have rz:=h.jL hz;simp only[exec]at he;split at he
 ·rename_i p q e1 e2;obtain⟨rfl,rfl⟩:=bZ he;rw[e1]at ry;rw[e2]at rz;have hv:=ry.oJ;have hu:=rz.oJ;have hd:(p==q)=decide (p=q):=by cases p<;>cases q<;>rfl
  have hrun:=run_equalIn_bool (P:=P) w 9999 t p q ht;rw[hd]at hrun;have hgd:∀op,(eqGuard op t y z (.bool p) (.bool q)).run P w= .ok () w:=by intro op;cases op<;>simp[eqGuard]
  refine Good.pure h (v:= .bool (xor neg (decide (p=q)))) ?_ (.bool _);cases neg
  ·simp only[Qq,Qu]at ho;simp only[execOp,ho,hv,hu,Sem.run_bind,hgd,Result.andThen_ok,binOp,Op.equal,Op.maxDepth,Sem.run_pure];rw[hrun];simp
  ·simp only[Qt]at ho;simp only[execOp,ho,hv,hu,Sem.run_bind,hgd,Result.andThen_ok,binOp,Op.equal,Op.maxDepth,Sem.run_pure];rw[hrun];simp
 ·cases he
def ae3(h:Rel E S a w L){neg:Bool}{y z:Operand}{y' z':bB}{t t2:TypeId}{fs:Array Field}{f g:Field}{k0:IntKind}(ho:o.op= .binOp (if neg then .neq else .eql) t y z t2)(ht:P.underlying t=some (.struct fs))(hfs:fs.toList=[f,g])
  (hf:P.underlying f.type=some (.int k0)) (hg:P.underlying g.type=some .string) (h0:f.offset=0) (h1:g.offset=1) (hn0:f.name≠ "_") (hn1:g.name≠ "_") (hst:P.stoodInHeld t=false) (hgu:P.eqGuardType P.depth t=false)
  (hy:bH y=some y') (hz:bH z=some z') (he:exec Γ nid S (.mu neg y' z')=some (x,wr)):Good P E S a w o x wr:=by
 have ry:=h.jL hy;have rz:=h.jL hz;simp only[exec]at he;split at he
 ·rename_i k p s k' q u e1 e2;split at he
  ·rename_i hk;subst hk;obtain⟨rfl,rfl⟩:=bZ he;rw[e1]at ry;rw[e2]at rz;obtain⟨vs,hv,hr⟩:=ry.tu;obtain⟨us,hu,hr2⟩:=rz.tu;obtain⟨v1,vs1,rfl,r1,hr⟩:=hr.cons_inv;obtain⟨v2,vs2,rfl,r2,hr⟩:=hr.cons_inv;have:=hr.te;subst this;obtain⟨u1,us1,rfl,r3,hr2⟩:=hr2.cons_inv;obtain⟨u2,us2,rfl,r4,hr2⟩:=hr2.cons_inv;have:=hr2.te;subst this;have:=r1.jE;subst this;have:=r2.Bo;subst this;have:=r3.jE;subst this;have:=r4.Bo;subst this;have hrun:=Zr (P:=P) (w:=w) (k:=k) (p:=p) (q:=q) (s:=s) (u:=u) ht hfs hf hg h0 h1 hn0 hn1 hst 9998
   have hgd:∀op,(eqGuard op t y z (.agg [.int k p,.string s].toArray) (.agg [.int k q,.string u].toArray)).run P w= .ok () w:=by intro op;cases op<;>simp[eqGuard,program,Sem.run,hgu]
   refine Good.pure h (v:= .bool (xor neg (decide (p=q)&&decide (s=u)))) ?_ (.bool _);cases neg
   ·simp only[Qq,Qu]at ho;simp only[execOp,ho,hv,hu,Sem.run_bind,hgd,Result.andThen_ok,binOp,Op.equal,Op.maxDepth,Sem.run_pure];rw[hrun];simp
   ·simp only[Qt]at ho;simp only[execOp,ho,hv,hu,Sem.run_bind,hgd,Result.andThen_ok,binOp,Op.equal,Op.maxDepth,Sem.run_pure];rw[hrun];simp
  ·cases he
 ·cases he
def Gl:∀(ks ks':List LK) (cs ds:List PV) (b:Bool),nH (ks++ks') cs ds=some b->
  ∃b1 b2,nH ks (cs.take ks.length) (ds.take ks.length)=some b1/\nH ks' (cs.drop ks.length) (ds.drop ks.length)=some b2/\b=(b1&&b2)
 |[],ks',cs,ds,b,h=>⟨true,b,by simp[nH],by simpa using h,by simp⟩
 |k::ks,ks',cs,ds,b,h=>by
  cases k<;>cases cs<;>cases ds<;>simp only[List.cons_append,nH]at h<;>try (cases h;done)
  all_goals rename_i x cs y ds
  all_goals cases x<;>cases y<;>simp only[nH]at h<;>try (cases h;done)
  ·split at h
   ·rename_i hk;simp only[Qb]at h;obtain⟨r,hr,rfl⟩:=h;obtain⟨b1,b2,h1,h2,rfl⟩:=Gl ks ks' cs ds r hr;refine⟨_,b2,?_,h2,(Bool.and_assoc _ _ _).symm⟩;simp only[QE,List.take_succ_cons,nH,Qr hk,h1,Qe]
   ·cases h
  all_goals
   simp only[Qb]at h;obtain⟨r,hr,rfl⟩:=h;obtain⟨b1,b2,h1,h2,rfl⟩:=Gl ks ks' cs ds r hr;refine⟨_,b2,?_,h2,(Bool.and_assoc _ _ _).symm⟩;simp only[QE,List.take_succ_cons,nH,h1,Qe]
def NU:∀(ks:List LK) (cs ds:List PV) (b:Bool),nH ks cs ds=some b->cs.length=ks.length/\ds.length=ks.length
 |[],cs,ds,b,h=>by cases cs<;>cases ds<;>simp[nH]at h<;>simp
 |k::ks,cs,ds,b,h=>by
  cases k<;>cases cs<;>cases ds<;>(try simp only[nH]at h)<;>try (cases h;done)
  all_goals rename_i x cs y ds
  all_goals cases x<;>cases y<;>simp only[nH]at h<;>try (cases h;done)
  ·split at h
   ·simp only[Qb]at h;obtain⟨r,hr,rfl⟩:=h;have:=NU ks cs ds r hr;simp[this.1,this.2]
   ·cases h
  all_goals
   simp only[Qb]at h;obtain⟨r,hr,rfl⟩:=h;have:=NU ks cs ds r hr;simp[this.1,this.2]
def valOf(P:Program)(t:TypeId)(vs:List Value):Value:=
 match P.underlying t with
 |some (.struct _)=> .agg vs.toArray
 |_=>vs.headD undef
def Ra{d:Nat}{t:TypeId}{ks:List LK}(h:BM P (d+1) t=some ks):
  (∃k,P.underlying t=some (.int k)/\ks=[.i])\/(P.underlying t=some .string/\ks=[.s])\/(P.underlying t=some .bool/\ks=[.b])\/∃fs,P.underlying t=some (.struct fs)/\P.stoodInHeld t=false/\SP P (BM P d) fs.toList 0=some ks:=by
 rw[BM]at h;split at h
 ·rename_i k hu;injection h with h;exact .inl ⟨k,hu,h.symm⟩
 ·rename_i hu;injection h with h;exact .inr (.inl ⟨hu,h.symm⟩)
 ·rename_i hu;injection h with h;exact .inr (.inr (.inl ⟨hu,h.symm⟩))
 ·rename_i fs hu;split at h
  ·rename_i hs;exact .inr (.inr (.inr ⟨fs,hu,hs,h⟩))
  ·cases h
 ·cases h
def Oy{t:TypeId}{d off:Nat}{ks:List LK}{i:TypeInfo}{vs:List Value}(h:BM P d t=some ks)(hi:P.info? t=some i)(hn:i.size=ks.length)(hlen:off+ks.length<=vs.length):
  (part t vs.toArray off).run P w= .ok (valOf P t ((vs.drop off).take ks.length)) w:=by
 cases d with
 |zero=>simp[BM]at h
 |succ d=>
  have leaf:(∀fs,P.underlying t≠some (.struct fs))->(isAgg t).run P w= .ok false w->ks.length=1->(part t vs.toArray off).run P w= .ok (valOf P t ((vs.drop off).take ks.length)) w:=by
   intro hns ha h1;have hlt:off<vs.length:=by omega
   have hv:valOf P t ((vs.drop off).take ks.length)=vs[off]:=by
    unfold valOf;split
    ·rename_i fs hfs;exact absurd hfs (hns fs)
    ·rw[h1,QM hlt];rfl
   rw[hv];simp[part,ha,hlt]
  rcases Ra h with⟨k,hu,rfl⟩|⟨hu,rfl⟩|⟨hu,rfl⟩|⟨fs,hu,_,_⟩
  ·exact leaf (λfs e=>by rw[hu]at e;cases e) (by simp[isAgg,run_underlying hu]) rfl
  ·exact leaf (λfs e=>by rw[hu]at e;cases e) (by simp[isAgg,run_underlying hu]) rfl
  ·exact leaf (λfs e=>by rw[hu]at e;cases e) (by simp[isAgg,run_underlying hu]) rfl
  ·have ha:(isAgg t).run P w= .ok true w:=by simp[isAgg,run_underlying hu]
   have hv:valOf P t ((vs.drop off).take ks.length)= .agg ((vs.drop off).take ks.length).toArray:=by unfold valOf;rw[hu]
   rw[hv];simp[part,ha,sizeOf,typeInfo,hi,hn,List.extract]
def acZ{M:Nat->Prop}{G:Gh}{d e:Nat}(hA:∀(t:TypeId) (ks:List LK) (cs ds:List PV) (b:Bool) (vs us:List Value),BM P d t=some ks->nH ks cs ds=some b->bo w M G cs vs->bo w M G ds us->(Op.equalIn e t (valOf P t vs) (valOf P t us)).run P w= .ok b w):
  ∀(fs:List Field) (ks:List LK) (off:Nat) (cs ds:List PV) (b:Bool) (vs us:List Value),SP P (BM P d) fs off=some ks->cs.length=off+ks.length->ds.length=off+ks.length->nH ks (cs.drop off) (ds.drop off)=some b->bo w M G cs vs->bo w M G ds us->(Op.eqFields e vs.toArray us.toArray fs).run P w= .ok b w:=by
 intro fs
 induction fs with
 |nil=>
  intro ks off cs ds b vs us h hc hd hq hr hr2;simp only[SP,Qf]at h;subst h;rw[List.drop_eq_nil_of_le (by simpa using Nat.le_of_eq hc),List.drop_eq_nil_of_le (by simpa using Nat.le_of_eq hd)]at hq
  simp only[nH,Qf]at hq;subst hq;simp[Op.eqFields]
 |cons f fs ih=>
  intro ks off cs ds b vs us h hc hd hq hr hr2;rw[SP]at h;split at h
  ·rename_i hname;obtain⟨hname,hoff⟩:=hname;split at h
   ·rename_i k1 i hk1 hi;split at h
    ·rename_i hsz;simp only[Qb]at h;obtain⟨k2,hk2,rfl⟩:=h;rw[QB]at hc hd;obtain⟨b1,b2,h1,h2,rfl⟩:=Gl k1 k2 _ _ b hq;rw[List.drop_drop]at h2;rw[List.drop_drop]at h2;have p1:(part f.type vs.toArray f.offset).run P w=_:=Oy (w:=w) hk1 hi hsz (by rw[hoff,hr.1];omega)
     have p2:(part f.type us.toArray f.offset).run P w=_:=Oy (w:=w) hk1 hi hsz (by rw[hoff,hr2.1];omega)
     have q1:=hA f.type k1 _ _ b1 _ _ hk1 h1 ((hr.drop off).take k1.length) ((hr2.drop off).take k1.length);rw[<-hoff]at q1;have q2:=ih k2 (off+k1.length) cs ds b2 vs us hk2 (by omega) (by omega) h2 hr hr2
     cases b1 with
     |false=>simp[Op.eqFields,hname,p1,p2,q1]
     |true=>simp[Op.eqFields,hname,p1,p2,q1,q2]
    ·cases h
   ·cases h
  ·cases h
def Vh{M:Nat->Prop}{G:Gh}:∀(d:Nat) (t:TypeId) (ks:List LK) (e:Nat) (cs ds:List PV) (b:Bool) (vs us:List Value),BM P d t=some ks->d<=e->nH ks cs ds=some b->bo w M G cs vs->bo w M G ds us->(Op.equalIn e t (valOf P t vs) (valOf P t us)).run P w= .ok b w
 |0=>λt ks e cs ds b vs us h=>by simp[BM]at h
 |d+1=>by
  have hA:=Vh (M:=M) (G:=G) d;intro t ks e cs ds b vs us h he hq hr hr2
  ·obtain⟨e,rfl⟩:∃e',e=e'+1:=⟨e - 1,by omega⟩
   obtain⟨hl1,hl2⟩:=NU _ _ _ _ hq
   have one:∀{x:LK},ks=[x]->∃p q v u,cs=[p]/\ds=[q]/\vs=[v]/\us=[u]/\bp w M G p v/\bp w M G q u:=by intro x hx;subst hx;have h1:∃p,cs=[p]:=List.length_eq_one_iff.1 hl1;have h2:∃p,ds=[p]:=List.length_eq_one_iff.1 hl2;obtain⟨p,rfl⟩:=h1;obtain⟨q,rfl⟩:=h2;obtain⟨v,vs',rfl,r1,r2⟩:=hr.cons_inv;obtain⟨u,us',rfl,r3,r4⟩:=hr2.cons_inv;have e1:=r2.te;have e2:=r4.te;subst e1 e2;exact⟨p,q,v,u,rfl,rfl,rfl,rfl,r1,r3⟩
   have hval:∀l:List Value,(∀fs,P.underlying t≠some (.struct fs))->valOf P t l=l.headD undef:=by
    intro l hns;unfold valOf;split
    ·rename_i fs hfs;exact absurd hfs (hns fs)
    ·rfl
   rcases Ra h with⟨k,hu,hk⟩|⟨hu,hk⟩|⟨hu,hk⟩|⟨fs,hu,hst,hf⟩
   ·obtain⟨p,q,v,u,rfl,rfl,rfl,rfl,r1,r2⟩:=one hk;subst hk;rw[hval _ (λfs e=>by rw[hu]at e;cases e),hval _ (λfs e=>by rw[hu]at e;cases e)]
    cases p<;>cases q<;>simp only[nH]at hq<;>try (cases hq;done)
    split at hq
    ·rename_i hkk;subst hkk;simp only[Qe,Qf,Bool.and_true]at hq;subst hq;have:=r1.jE;subst this;have:=r2.jE;subst this;rename_i k1 a1 b1;exact run_equalIn_int w e t _ k a1 b1 hu
    ·cases hq
   ·obtain⟨p,q,v,u,rfl,rfl,rfl,rfl,r1,r2⟩:=one hk;subst hk;rw[hval _ (λfs e=>by rw[hu]at e;cases e),hval _ (λfs e=>by rw[hu]at e;cases e)]
    cases p<;>cases q<;>simp only[nH]at hq<;>try (cases hq;done)
    simp only[Qe,Qf,Bool.and_true]at hq;subst hq;have:=r1.Bo;subst this;have:=r2.Bo;subst this;rename_i a1 b1;have:=run_equalIn_string (P:=P) w e t a1 b1 hu;rw[toList_eq_iff]at this;exact this
   ·obtain⟨p,q,v,u,rfl,rfl,rfl,rfl,r1,r2⟩:=one hk;subst hk;rw[hval _ (λfs e=>by rw[hu]at e;cases e),hval _ (λfs e=>by rw[hu]at e;cases e)]
    cases p<;>cases q<;>simp only[nH]at hq<;>try (cases hq;done)
    simp only[Qe,Qf,Bool.and_true]at hq;subst hq;have:=r1.oJ;subst this;have:=r2.oJ;subst this;rename_i a1 b1;have:=run_equalIn_bool (P:=P) w e t a1 b1 hu;rw[show(a1==b1)=decide (a1=b1)by cases a1<;>cases b1<;>rfl]at this
    exact this
   ·have hv:∀l:List Value,valOf P t l= .agg l.toArray:=λl=>by unfold valOf;rw[hu]
    have hfo:P.fieldsOf t=fs:=by simp[Program.fieldsOf,hu]
    rw[hv,hv,run_equalIn_struct w e t _ _ (by rw[hfo];exact hu) hst,hfo]
    exact acZ (λt ks cs ds b vs us h1 h2 h3 h4=>hA t ks e cs ds b vs us h1 (by omega) h2 h3 h4) fs.toList ks 0 cs ds b vs us hf (by omega) (by omega) (by simpa using hq) hr hr2
def UX(h:Rel E S a w L){neg:Bool}{ks:List LK}{y z:Operand}{y' z':bB}{t t2:TypeId}{fs:Array Field}(ho:o.op= .binOp (if neg then .neq else .eql) t y z t2)(ht:P.underlying t=some (.struct fs))(hk:BM P 64 t=some ks)
  (hgu:P.eqGuardType P.depth t=false) (hy:bH y=some y') (hz:bH z=some z') (he:exec Γ nid S (.G4 neg ks y' z')=some (x,wr)):Good P E S a w o x wr:=by
 have ry:=h.jL hy;have rz:=h.jL hz;simp only[exec]at he;split at he
 ·rename_i cs ds e1 e2;simp only[Qb]at he;obtain⟨b,hb,he⟩:=he;injection he with h1 h2
  subst h1 h2;rw[e1]at ry;rw[e2]at rz;obtain⟨vs,hv,hr⟩:=ry.tu;obtain⟨us,hu,hr2⟩:=rz.tu;have hval:∀l:List Value,valOf P t l= .agg l.toArray:=λl=>by unfold valOf;rw[ht]
  have hrun:=Vh (P:=P) (w:=w) 64 t ks 10000 cs ds b vs us hk (by omega) hb hr hr2
  rw[hval,hval]at hrun
  have hgd:∀op,(eqGuard op t y z (.agg vs.toArray) (.agg us.toArray)).run P w= .ok () w:=by intro op;cases op<;>simp[eqGuard,program,Sem.run,hgu]
  refine Good.pure h (v:= .bool (xor neg b)) ?_ (.bool _);cases neg
  ·simp only[Qq,Qu]at ho;simp only[execOp,ho,hv,hu,Sem.run_bind,hgd,Result.andThen_ok,binOp,Op.equal,Op.maxDepth,Sem.run_pure];rw[hrun];simp
  ·simp only[Qt]at ho;simp only[execOp,ho,hv,hu,Sem.run_bind,hgd,Result.andThen_ok,binOp,Op.equal,Op.maxDepth,Sem.run_pure];rw[hrun];simp
 ·cases he
def bp.closed{M M':Nat->Prop}{G G':Gh}{y:PV}{v:Value}(hc:y.closed=true)(hM:∀b,M' b->M b)(h:bp w M G y v):bp w M' G' y v:=by
 have hs:cZ w w M M':=(cZ.of λ_ hm=>λh'=>hm (hM _ h'))
 cases h with
 |any|undef|jz|agg|eN|ptr|own|fh|view=>simp[PV.closed]at hc
 |int=>exact .int _ _
 |bool=>exact .bool _
 |gL=>first|exact .gL _|simp[PV.closed]at hc
 |str=>exact .str _
 |lL=>exact .lL
 |eG=>exact .eG
 |bI f cs vs hl h=>
  cases cs with
  |nil=>exact .bI f [] vs hl (λi x v hx _=>by simp at hx)
  |cons=>simp[PV.closed]at hc
 |ref cs ad vs hl hcell h=>exact .ref cs ad vs hl (λi u hu=>⟨(hcell i u hu).1,λh'=>(hcell i u hu).2 (hM _ h')⟩) (λi p u hp hu=>(h i p u hp hu).mono hs (Gh.le.refl _))
 |sl es ad c k vs hk hl hcell h hn hm=>exact .sl es ad c k vs hk hl (λi u hu=>⟨(hcell i u hu).1,λh'=>(hcell i u hu).2 (hM _ h')⟩) (λi p u hp hu=>(h i p u hp hu).mono hs (Gh.le.refl _)) hn hm
 |slnil=>exact .slnil
 |jQ ks us b es ck hb hMb hk hv h1 h2=>exact .jQ ks us b es ck hb (λh'=>hMb (hM _ h')) hk hv (λi p e hp he=>(h1 i p e hp he).mono hs (Gh.le.refl _)) (λi p e hp he=>(h2 i p e hp he).mono hs (Gh.le.refl _))
def bo.closed{M M':Nat->Prop}{G G':Gh}{ys:List PV}{vs:List Value}(hc:ys.all PV.closed=true)(hM:∀b,M' b->M b)(h:bo w M G ys vs):bo w M' G' ys vs:=
 ⟨h.1,λi y v hy hv=>(h.2 i y v hy hv).closed (QH.1 hc y (Q8 hy)) hM⟩
def bp.bJ{M M':Nat->Prop}{G G':Gh}{y:PV}{v:Value}(hc:y.bJ=true)(hM:∀b,M' b->M b)(h:bp w M G y v):bp w M' G' y v:=by
 cases y with
 |agg cs=>cases h with|agg _ vs hl h=>have:=bo.closed (G':=G') (by simpa[PV.bJ]using hc) hM ⟨hl,h⟩;exact .agg cs vs this.1 this.2
 |eN cs=>cases h with|eN _ vs hl h=>have:=bo.closed (G':=G') (by simpa[PV.bJ]using hc) hM ⟨hl,h⟩;exact .eN cs vs this.1 this.2
 |bI f cs=>cases h with|bI _ _ vs hl h=>have:=bo.closed (G':=G') (by simpa[PV.bJ]using hc) hM ⟨hl,h⟩;exact .bI f cs vs this.1 this.2
 |_=>exact h.closed (by simpa[PV.bJ]using hc) hM
def bp.xj{M M':Nat->Prop}{G G':Gh}{y:PV}{v:Value}(hc:y.xj=true)(hM:∀b,M' b->M b)(h:bp w M G y v):bp w M' G' y v:=by
 cases y with
 |eN cs=>cases h with|eN _ vs hl h=>exact .eN cs vs hl λi y v hy hv=>(h i y v hy hv).bJ (QH.1 (show cs.all PV.bJ=true from hc) y (Q8 hy)) hM
 |_=>exact h.bJ hc hM
def bp.rI{w':World}{M M':Nat->Prop}{G G':Gh}{y:PV}{v:Value}(hc:y.rI=true)(h:bp w M G y v):bp w' M' G' y v:=by
 have go:∀{cs:List PV} {vs:List Value},cs.all PV.plain=true->bo w M G cs vs->bo w' M' G' cs vs:=λhc h=>⟨h.1,λi y v hy hv=>(h.2 i y v hy hv).plain (QH.1 hc y (Q8 hy))⟩
 cases y with
 |agg cs=>cases h with|agg _ vs hl h=>have:=go (by simpa[PV.rI]using hc) ⟨hl,h⟩;exact .agg cs vs this.1 this.2
 |_=>exact h.plain (by simpa[PV.rI]using hc)
def bp.vV{w':World}{M M':Nat->Prop}{G G':Gh}{y:PV}{v:Value}(hc:y.vV=true)(h:bp w M G y v):bp w' M' G' y v:=by
 cases y with
 |eN cs=>cases h with|eN _ vs hl h=>exact .eN cs vs hl λi y v hy hv=>(h i y v hy hv).rI (QH.1 (show cs.all PV.rI=true from hc) y (Q8 hy))
 |_=>exact h.rI hc
def bo.plain{w':World}{M M':Nat->Prop}{G G':Gh}{ys:List PV}{vs:List Value}(hc:ys.all PV.plain=true)(h:bo w M G ys vs):bo w' M' G' ys vs:=
 ⟨h.1,λi y v hy hv=>(h.2 i y v hy hv).plain (QH.1 hc y (Q8 hy))⟩
def yC{H:Nat->gm}{ex:Option Nat}{M M':Nat->Prop}{G:Gh}{y:PV}{v:Value}(hc:y.closed=true)(hM:∀b,M' b->M b)(h:bp w M G y v)(n:Nat):bp w M' ed (fz H ex n y) v:=by
 have hn:y= .eG\/fz H ex n y=y:=by
  cases y with
  |bI f cs=>
   cases cs with
   |nil=>right;cases n<;>simp[fz,PV.closed]
   |cons=>simp[PV.closed]at hc
  |_=>first|exact .inl rfl|(right;cases n<;>simp_all [fz,PV.closed])|(simp[PV.closed]at hc;done)
 rcases hn with rfl|hn
 ·have:=h.ud;subst this;cases n<;>exact .slnil
 ·rw[hn];exact h.closed hc hM
def SL{H:Nat->gm}{ex:Option Nat}{M M':Nat->Prop}{G:Gh}{y:PV}{v:Value}(hc:y.bJ=true)(hM:∀b,M' b->M b)(h:bp w M G y v)(n:Nat):bp w M' ed (fz H ex (n+1) y) v:=by
 have go:∀{cs:List PV} {vs:List Value},cs.all PV.closed=true->bo w M G cs vs->bo w M' ed (cs.map (fz H ex n)) vs:=λhc hr=>
  ⟨by simp[hr.1],λi p u hp hu=>by
   rw[QT,Qb]at hp;obtain⟨q,hq,rfl⟩:=hp
   exact yC (QH.1 hc q (Q8 hq)) hM (hr.2 i q u hq hu) n⟩
 cases y with
 |agg cs=>obtain⟨vs,rfl,hr⟩:=h.tu;have:=go (by simpa[PV.bJ]using hc) hr;simp only[fz];exact .agg _ _ this.1 this.2
 |eN cs=>obtain⟨vs,rfl,hr⟩:=h.Gv;have:=go (by simpa[PV.bJ]using hc) hr;simp only[fz];exact .eN _ _ this.1 this.2
 |bI f cs=>obtain⟨vs,rfl,hr⟩:=h.xk;have:=go (by simpa[PV.bJ]using hc) hr;simp only[fz];exact .bI _ _ _ this.1 this.2
 |_=>exact yC (by simpa[PV.bJ]using hc) hM h (n+1)
def Rel.fz(h:Rel E S a w L){ex:Option Nat}{M:Nat->Prop}(hM:∀b,M b->bl E S L b)(hx:∀id b,id<S.N->(S.H id).c.live=true->some id≠ex->cd (L id)=some b->¬M b):
  ∀(n:Nat) {y:PV} {v:Value},bp w (bl E S L) (S.gh L) y v->bp w M ed (fz S.H ex n y) v
 |0,y,v,r=>by
  cases hc:y.closed with
  |true=>exact yC hc hM r 0
  |false=>
   have:TQ.fz S.H ex 0 y= .any:=by cases y<;>simp_all [TQ.fz,PV.closed]
   rw[this];exact .any _
 |n+1,y,v,r=>by
  have ih:=λ{y:PV} {v:Value} (r:bp w (bl E S L) (S.gh L) y v)=>h.fz hM hx n r
  have ihl:∀{cs:List PV} {vs:List Value},bo w (bl E S L) (S.gh L) cs vs->bo w M ed (cs.map (TQ.fz S.H ex n)) vs:=λhr=>
   ⟨by simp[hr.1],λi p u hp hu=>by
    rw[QT,Qb]at hp;obtain⟨q,hq,rfl⟩:=hp
    exact ih (hr.2 i q u hq hu)⟩
  cases y with
  |own id av=>
   simp only[TQ.fz];split
   ·exact .any _
   ·rename_i hne;have hne':some id≠ex/\(S.H id).av=av:=⟨λe=>hne (.inl e),Classical.not_not.1 λe=>hne (.inr e)⟩
    split
    ·rename_i e k es hc;obtain⟨hN,hv⟩:=r.n4 (show(S.gh L).V id=av from hne'.2)
     obtain⟨vs,hown,hk,hr⟩:=h.lx hN hc;rw[hv,show(S.gh L).L id=L id from rfl]
     have hfl:(es.map λe=>e.map (TQ.fz S.H ex n)).flatten=es.flatten.map (TQ.fz S.H ex n):=by rw[List.map_flatten]
     rcases hown.2 with⟨hL,h0⟩|⟨g,cap,cur,hL,_,hh,hnc,hcm,_⟩
     ·have:es=[]:=Qq67 h0;subst this;rw[hL];exact .slnil
     ·rw[hL];have hr2:=ihl hr;rw[<-hfl]at hr2;have hlen:es.length=(es.map λe=>e.map (TQ.fz S.H ex n)).length:=by simp
      rw[hlen];refine .sl _ _ _ k vs (λu hu=> ?_) hr2.1 (λi u hu=>⟨hown.cells (g:=g) (by rw[hL];rfl) i u hu,hx id g hN (by rw[hc];rfl) hne'.1 (by rw[hL];rfl)⟩) hr2.2 (by simpa using hnc) hcm
      obtain⟨q,hq,rfl⟩:=QP.1 hu;simpa using hk q hq
    ·exact .any _
  |ptr id av off=>
   simp only[TQ.fz];split
   ·exact .any _
   ·rename_i hne;have hne':some id≠ex/\(S.H id).av=av:=⟨λe=>hne (.inl e),Classical.not_not.1 λe=>hne (.inr e)⟩
    split
    ·rename_i cs hc;obtain⟨hN,_⟩:=r.pP (show(S.gh L).V id=av from hne'.2)
     obtain⟨b,hv,hL⟩:=h.yO r hne'.2 hc;obtain⟨b',cur,T,hL',hh,hr,_⟩:=h.rY hN hc;rw[hL]at hL';simp only[Value.pointer.injEq,Qf,Addr.mk.injEq]at hL';obtain⟨rfl,_⟩:=hL';rw[hv];have hr2:=(ihl hr).drop off;exact .ref _ _ _ hr2.1 (λi u hu=>⟨by rw[add_mid];exact rX hh (gX hu),hx id b hN (by rw[hc];rfl) hne'.1 (by rw[hL];rfl)⟩) hr2.2
    ·exact .any _
  |agg cs=>obtain⟨vs,rfl,hr⟩:=r.tu;have:=ihl hr;exact .agg _ _ this.1 this.2
  |eN cs=>obtain⟨vs,rfl,hr⟩:=r.Gv;have:=ihl hr;exact .eN _ _ this.1 this.2
  |bI f cs=>obtain⟨vs,rfl,hr⟩:=r.xk;have:=ihl hr;exact .bI _ _ _ this.1 this.2
  |eG=>exact yC rfl hM r (n+1)
  |_=>
   simp only[TQ.fz];split
   ·rename_i hc;exact r.closed hc hM
   ·exact .any _
def af9(h:Rel E S a w L){b:Nat}(hb:bl E S L b):b<w.heap.size:=by
 rcases hb with⟨id,hid,hl,hb⟩|hb
 ·exact((h.obj id hid).yr hl hb).1
 ·exact h.acN hb
def GK(h:Rel E S a w L){b:Nat}(hb:bl E S L b):¬gb b:=by
 rcases hb with⟨id,hid,hl,hb⟩|hb
 ·rcases((h.obj id hid).yr hl hb).2 with h1|h1
  ·exact(E.Df b h1).2
  ·intro hg;have:=E.hX.gi.lt hg;omega
 ·exact h.akk hb
def Rel.gi(h:Rel E S a w L):GI w:=E.hX.gi.eO λb hg=>h.fr.block b (E.hX.gi.lt hg) λe=>(E.Df b e).2 hg
def Rel.Yf(h:Rel E S a w L){X:Nat->Prop}(hX:∀q,X q->bl E S L q):xG w X:=⟨λq hq=>af9 h (hX q hq),λq hq=>GK h (hX q hq),h.gi⟩
def Rel.x0(h:Rel E S a w L):xG w λ_=>False:= .nil h.gi
def bo.fz(h:Rel E S a w L){ex:Option Nat}{M:Nat->Prop}(hM:∀b,M b->bl E S L b)(hx:∀id b,id<S.N->(S.H id).c.live=true->some id≠ex->cd (L id)=some b->¬M b){args:List PV}{vs:List Value}
  (hr:bo w (bl E S L) (S.gh L) args vs):bo w M ed (args.map (TQ.fz S.H ex 9)) vs:=
 ⟨by simp[hr.1],λi p u hp hu=>by
  rw[QT,Qb]at hp;obtain⟨q,hq,rfl⟩:=hp
  exact h.fz hM hx 9 (hr.2 i q u hq hu)⟩
def bo.bJ{M M':Nat->Prop}{G G':Gh}{ys:List PV}{vs:List Value}(hc:ys.all PV.bJ=true)(hM:∀b,M' b->M b)(h:bo w M G ys vs):bo w M' G' ys vs:=
 ⟨h.1,λi y v hy hv=>(h.2 i y v hy hv).bJ (QH.1 hc y (Q8 hy)) hM⟩
def bo.Ay{H:Nat->gm}{ex:Option Nat}{M M':Nat->Prop}{G:Gh}{ys:List PV}{vs:List Value}(hc:ys.all PV.bJ=true)(hM:∀b,M' b->M b)(h:bo w M G ys vs):bo w M' ed (ys.map (TQ.fz H ex 9)) vs:=
 ⟨by simp[h.1],λi p u hp hu=>by
  rw[QT,Qb]at hp;obtain⟨q,hq,rfl⟩:=hp
  exact SL (QH.1 hc q (Q8 hq)) hM (h.2 i q u hq hu) 8⟩
def FZ{es:List (List PV)}(h:Ct es=true):es.flatten.all PV.closed=true:=by
 refine QH.2 λy hy=> ?_
 obtain⟨u,hu,hyu⟩:=List.mem_flatten.1 hy;exact QH.1 (QH.1 h u hu) y hyu
def FY{es:List (List PV)}(h:JQ es=true):es.flatten.all PV.plain=true:=by
 refine QH.2 λy hy=> ?_
 obtain⟨u,hu,hyu⟩:=List.mem_flatten.1 hy;exact QH.1 (QH.1 h u hu) y hyu
def Ej{w:World}{b:Nat}{e k:Nat}{v:Value}{n:Nat}{xs:List Value}(h:w.ownsRow b e k v n xs):w.ownsRow 0 e k v n xs:=by
 refine⟨h.1,?_⟩;rcases h.2 with h1|⟨g,cap,cur,h1,_,h3⟩
 ·exact .inl h1
 ·exact .inr ⟨g,cap,cur,h1,QS _,h3⟩
def VH{w w':World}{b:Nat}{e k:Nat}{v:Value}{n n':Nat}{xs ys:List Value}(h:w.ownsRow b e k v n xs)(h':w'.ownsRow 0 e k v n' ys):w'.ownsRow b e k v n' ys:=by
 refine⟨h'.1,?_⟩;rcases h'.2 with h1|⟨g,cap,cur,h1,_,h3⟩
 ·exact .inl h1
 ·refine .inr ⟨g,cap,cur,h1,?_,h3⟩;rcases h.2 with⟨h4,_⟩|⟨g',cap',cur',h4,h5,_⟩
  ·rw[h4]at h1;cases h1
  ·rw[h4]at h1;injection h1 with h1
   injection h1 with h1
   injection h1 with h1
   omega
def IQ{w:World}{b:Nat}{e k:Nat}{v:Value}{n:Nat}{xs:List Value}(h:w.ownsRow b e k v n xs):∃ad n c,v= .slice ad n c:=by
 rcases h.2 with⟨rfl,_⟩|⟨g,cap,cur,rfl,_⟩
 ·exact⟨_,_,_,rfl⟩
 ·exact⟨_,_,_,rfl⟩
def Ft{E:En}{w w':World}{b:Nat}{e k:Nat}{v u:Value}{n n':Nat}{xs ys:List Value}(h:w.ownsRow (fN E v) e k v n xs)(h':w'.ownsRow 0 e k u n' ys)(hs:E.w0.heap.size<=b)
  (hu:∀g,cd u=some g->cd v=some g\/b<=g):w'.ownsRow (fN E u) e k u n' ys:=by
 refine⟨h'.1,?_⟩;rcases h'.2 with h1|⟨g,cap,cur,h1,_,h3⟩
 ·exact .inl h1
 ·refine .inr ⟨g,cap,cur,h1,?_,h3⟩;have hbu:cd u=some g:=by rw[h1];rfl
  rcases hu g hbu with hv|hv
  ·rw[CX (v:=u) (v':=v) (by rw[hbu,hv])]
   rcases h.2 with⟨h4,_⟩|⟨g',cap',cur',h4,h5,_⟩
   ·rw[h4]at hv;cases hv
   ·rw[h4]at hv;simp only[cd,Qf]at hv;omega
  ·rw[MA hbu (QK hs hv)];exact QK hs hv
def Yk(h:Rel E S a w L){id:Nat}(hN:id<S.N)(hlive:(S.H id).c.live=true){rest:List PV}{vs':List Value}(hr':bo w (bl E S L) (S.gh L) rest vs'):
  ∃X:Nat->Prop,xG w X/\(∀b,cd (L id)=some b->¬X b/\¬gb b)/\(∀q,Mv (L id) X q->bl E S L q)/\bo w (Mv (L id) X) ed (rest.map (TQ.fz S.H (some id) 9)) vs'/\(rest.all PV.bJ=true->∀q,bl E S L q->Mv (L id) X q):=by
 have hmb:∀b,cd (L id)=some b->bl E S L b:=λb hb=> .inl ⟨id,hN,hlive,hb⟩
 by_cases hall:rest.all PV.bJ=true
 ·have hsub:∀q,Mv (L id) (λq=>bl E S L q/\cd (L id)≠some q) q->bl E S L q:=by
   rintro q (hq|hq)
   ·exact hmb q hq
   ·exact hq.1
  refine⟨λq=>bl E S L q/\cd (L id)≠some q,h.Yf λq hq=>hq.1,λb hb=>⟨λhq=>hq.2 hb,GK h (hmb b hb)⟩,hsub,hr'.Ay hall hsub,λ_ q hq=> ?_⟩
  by_cases hb:cd (L id)=some q
  ·exact .inl hb
  ·exact .inr ⟨hq,hb⟩
 ·have hsub:∀q,Mv (L id) (λ_=>False) q->bl E S L q:=by
   rintro q (hq|hq)
   ·exact hmb q hq
   ·exact hq.elim
  refine⟨λ_=>False,h.x0,λb hb=>⟨λhq=>hq,GK h (hmb b hb)⟩,hsub,?_,λhq=>absurd hq hall⟩
  refine hr'.fz h hsub (λj q hj hjl hne hjb hq=> ?_)
  rcases hq with hq|hq
  ·exact hne (by rw[h.apart j id q hj hN hjl hlive hjb hq])
  ·exact hq
def aiC{f:FuncId}{m:Model}{e k:Nat}(hrow:∀es args r es',m.rm es args=some (r,es')->aaR P f e k es args r es')(h:Rel E S a w L){args:List PV}{vs:List Value}(hr:bo w (bl E S L) (S.gh L) args vs)(he:BQ m e k S args=some (x,wr)):
  Calls P f vs.toArray w (λen w'=>∃v L',en= .returned v/\Rel E (S.fl wr) a w' L'/\bp w' (bl E (S.fl wr) L') ((S.fl wr).gh L') x v):=by
 unfold BQ at he;split at he
 case h_2=>cases he
 rename_i id av rest;split at he
 case isFalse=>cases he
 rename_i hver;split at he
 case h_2=>cases he
 rename_i e' k' es hc;split at he
 case isFalse=>cases he
 rename_i hek;obtain⟨rfl,rfl,hok⟩:=hek;split at he
 case h_2=>cases he
 rename_i r es' hmm;split at he
 case isFalse=>cases he
 rename_i hcond;obtain⟨rfl,rfl⟩:=bZ he;simp only[Qm,Qn]at hcond;obtain⟨⟨hc1,hc2⟩,hc3⟩:=hcond;obtain⟨v0,vs',rfl,r0,hr'⟩:=hr.cons_inv;obtain⟨hN,hv0⟩:=r0.n4 (show(S.gh L).V id=av from hver)
 have hv0:v0=L id:=hv0;subst hv0;have hlive:(S.H id).c.live=true:=by rw[hc];rfl
 obtain⟨us,hown,hk,hru⟩:=h.lx hN hc;obtain⟨X,hX,hXn,hsub,hargs,hsup⟩:=Yk h hN hlive hr';refine(hrow es _ r es' hmm w X hX (L id) vs' hXn ⟨us,Ej hown,hk,hru.closed (FZ hok) hsub⟩ hargs).mono ?_;rintro en w' ⟨u,rfl,hrep,⟨us',hown',hk',hru'⟩,hfr⟩
 have hmm':∀q,bl E {S with H:=bU S.H id ⟨av,.row e' k' es'⟩} (bU L id (L id)) q->bl E S L q:=by
  rintro q (⟨j,hj,hjl,hjb⟩|hq)
  ·simp only at hj hjl;have:bU L id (L id) j=L j:=by by_cases hji:j=id<;>simp[bU,hji]
   rw[this]at hjb
   by_cases hji:j=id
   ·subst hji;exact .inl ⟨j,hj,hlive,hjb⟩
   ·rw[c7 _ _ hji]at hjl;exact .inl ⟨j,hj,hjl,hjb⟩
  ·exact .inr hq
 have hst:rest.all PV.bJ=true->cZ w' w' (Mv (L id) X) (bl E {S with H:=bU S.H id ⟨av,.row e' k' es'⟩} (bU L id (L id))):=λhall=>(cZ.of λ_ hnm=>λhq=>hnm (hsup hall _ (hmm' _ hq)))
 obtain⟨h2,hs2,hg2⟩:=h.vR (w':=w') (hdr:=hfr.drawn) hN ⟨av,.row e' k' es'⟩ (L id) (.inl ⟨hver.symm,rfl,hlive⟩) hfr.os hfr.tape hfr.output hfr.size
  (λq hq hne=>hfr.block q hq (hne hlive)) (λq _ hq=> .inl ⟨hlive,hq⟩)
  (λhs2 hg2=>⟨us',VH hown hown',hk',by
   rcases hc3 with hpl|hall
   ·exact hru'.plain (FY hpl)
   ·exact hru'.mono (hst hall) (ed.le _)⟩)
 refine⟨u,_,rfl,h2,?_⟩;rcases hc1 with hpl|hall
 ·exact hrep.vV hpl
 ·exact hrep.mono (hst hall.1) (ed.le _)
def aiA{f:FuncId}{m:Model}{e k:Nat}(hrow:∀es args r es',m.rm es args=some (r,es')->Od P f e k es args es')(h:Rel E S a w L){args:List PV}{vs:List Value}(hr:bo w (bl E S L) (S.gh L) args vs)(he:BP m e k S args=some (x,wr)):
  Calls P f vs.toArray w (λen w'=>∃v L',en= .returned v/\Rel E (S.fl wr) a w' L'/\bp w' (bl E (S.fl wr) L') ((S.fl wr).gh L') x v):=by
 unfold BP at he;split at he
 case h_2=>cases he
 rename_i id av rest;split at he
 case isFalse=>cases he
 rename_i hver;split at he
 case h_2=>cases he
 rename_i e' k' es hc;split at he
 case isFalse=>cases he
 rename_i hek;obtain⟨rfl,rfl,hok⟩:=hek;split at he
 case h_2=>cases he
 rename_i r es' hmm;split at he
 case isFalse=>cases he
 rename_i hcond;obtain⟨rfl,rfl⟩:=bZ he;simp only[Qm,Qn]at hcond;obtain⟨hc2,hc3⟩:=hcond;obtain⟨v0,vs',rfl,r0,hr'⟩:=hr.cons_inv;obtain⟨hN,hv0⟩:=r0.n4 (show(S.gh L).V id=av from hver)
 have hv0:v0=L id:=hv0;subst hv0;have hlive:(S.H id).c.live=true:=by rw[hc];rfl
 obtain⟨us,hown,hk,hru⟩:=h.lx hN hc;obtain⟨X,hX,hXn,hsub,hargs,hsup⟩:=Yk h hN hlive hr';refine(hrow es _ r es' hmm w X hX (L id) vs' hXn ⟨us,Ej hown,hk,hru.closed (FZ hok) hsub⟩ hargs).mono ?_;rintro en w' ⟨u,rfl,⟨us',hown',hk',hru'⟩,hub,hfr⟩
 have hEX:∀q,E.X q->cd (L id)≠some q:=by
  intro q hq hb
  by_cases hH:E.H0 q
  ·exact(h.an.2.2 q hH).2.2 id hN hlive hb
  rcases hown.2 with⟨h4,_⟩|⟨g',cap',cur',h4,h5,_⟩
  ·rw[h4]at hb;cases hb
  ·have hbg:cd (L id)=some g':=by rw[h4];rfl
   rw[hb]at hbg;injection hbg with hbg
   subst hbg;rcases HG hb h5 with⟨h6,h7⟩|h6
   ·exact E.PO h6 q h7 hq
   ·have:=E.hX.lt q ⟨hq,hH⟩;omega
 have hst:rest.all PV.bJ=true->cZ w' w' (Mv u X) (bl E {S with H:=bU S.H id ⟨av+1,.row e' k' es'⟩} (bU L id u)):=by
  intro hall;refine(cZ.of λ_ hnm=>λhq=>hnm ?_)
  rcases hq with⟨j,hj,hjl,hjb⟩|hq
  ·simp only at hj hjl
   by_cases hji:j=id
   ·subst hji;rw[ct]at hjb;exact .inl hjb
   ·rw[c7 _ _ hji]at hjl hjb;rcases hsup hall _ (.inl ⟨j,hj,hjl,hjb⟩)with hq|hq
    ·exact absurd (h.apart j id _ hj hN hjl hlive hjb hq) hji
    ·exact .inr hq
  ·rcases hsup hall _ (.inr hq)with hq'|hq'
   ·exact absurd hq' (hEX _ hq)
   ·exact .inr hq'
 obtain⟨h2,hs2,hg2⟩:=h.vR (w':=w') (hdr:=hfr.drawn) hN ⟨av+1,.row e' k' es'⟩ u (.inr (by show(S.H id).av<av+1;omega)) hfr.os hfr.tape hfr.output hfr.size
  (λq hq hne=>hfr.block q hq (hne hlive)) (λq _ hq=>(hub q hq).imp (λhb=>⟨hlive,hb⟩) (λhb=>hb))
  (λhs2 hg2=>⟨us',Ft hown hown' h.fr.size hub,hk',by
   rcases hc3 with hpl|hall
   ·exact hru'.plain (FY hpl)
   ·exact hru'.mono (hst hall) (ed.le _)⟩)
 obtain⟨ad,n,c,hu⟩:=IQ hown';refine⟨u,_,rfl,h2,?_⟩;subst hu;exact .own _ _ _ _ _ hN (by simp[St.gh,St.fl,ct]) (λ_=>by simp[St.gh,St.fl,ct])
def air{f:FuncId}{m:Model}{e k:Nat}(hrow:∀args r es',m.rm [] args=some (r,es')->Xy P f args e k es')(h:Rel E S a w L)(hn:nid<S.N){args:List PV}{vs:List Value}(hr:bo w (bl E S L) (S.gh L) args vs)(he:G9 m e k nid S args=some (x,wr)):
  Calls P f vs.toArray w (λen w'=>∃v L',en= .returned v/\Rel E (S.fl wr) a w' L'/\bp w' (bl E (S.fl wr) L') ((S.fl wr).gh L') x v):=by
 unfold G9 at he;split at he
 case h_2=>cases he
 rename_i r es' hmm;split at he
 case isFalse=>cases he
 rename_i hcond;obtain⟨rfl,rfl⟩:=bZ he;simp only[Qm,Qn]at hcond;obtain⟨hc2,hc3⟩:=hcond
 have key:∃X:Nat->Prop,xG w X/\bo w X ed (args.map (TQ.fz S.H none 9)) vs/\(args.all PV.bJ=true->∀q,bl E S L q->X q):=by
  by_cases hall:args.all PV.bJ=true
  ·exact⟨bl E S L,h.Yf λq hq=>hq,hr.Ay hall (λq hq=>hq),λ_ q hq=>hq⟩
  ·exact⟨λ_=>False,h.x0,hr.fz h (λq hq=>hq.elim) (λj q hj hjl hne hjb hq=>hq),λhq=>absurd hq hall⟩
 obtain⟨X,hX,hargs,hsup⟩:=key;refine(hrow _ r es' hmm w X hX vs hargs).mono ?_;rintro en w' ⟨u,rfl,⟨us',hown',hk',hru'⟩,hub,hfr⟩
 have hst:args.all PV.bJ=true->cZ w' w' (Mv u X) (bl E {S with H:=bU S.H nid ⟨(S.H nid).av+1,.row e k es'⟩} (bU L nid u)):=by
  intro hall;refine(cZ.of λ_ hnm=>λhq=>hnm ?_)
  rcases hq with⟨j,hj,hjl,hjb⟩|hq
  ·simp only at hj hjl
   by_cases hji:j=nid
   ·subst hji;rw[ct]at hjb;exact .inl hjb
   ·rw[c7 _ _ hji]at hjl hjb;exact .inr (hsup hall _ (.inl ⟨j,hj,hjl,hjb⟩))
  ·exact .inr (hsup hall _ (.inr hq))
 obtain⟨h2,hs2,hg2⟩:=h.vR (w':=w') (hdr:=hfr.drawn) hn ⟨(S.H nid).av+1,.row e k es'⟩ u (.inr (Nat.lt_succ_self _)) hfr.os hfr.tape hfr.output hfr.size
  (λq hq _=>hfr.block q hq (by simp)) (λq _ hq=> .inr (hub q hq))
  (λhs2 hg2=>⟨us',Ft (v:= .slice none 0 0) (World.ownsRow_nil w _ _ _) hown' h.fr.size (λg hg=> .inr (hub g hg)),hk',by
   rcases hc3 with hpl|hall
   ·exact hru'.plain (FY hpl)
   ·exact hru'.mono (hst hall) (ed.le _)⟩)
 obtain⟨ad,n,c,hu⟩:=IQ hown';refine⟨u,_,rfl,h2,?_⟩;subst hu;exact .own _ _ _ _ _ hn (by simp[St.gh,St.fl,ct]) (λ_=>by simp[St.gh,St.fl,ct])
def bo.agQ{M:Nat->Prop}{G:Gh}{args:List PV}{vs:List Value}(hr:bo w M G args vs){p:Nat}{y:PV}(hp:args[p]?=some y):
  ∃v0,bp w M G y v0/\bo w M G (cutAt p args) (cutAt p vs)/\jF p [v0] (cutAt p vs)=vs:=by
 obtain⟨v0,hv0,hrep⟩:=hr.get hp;refine⟨v0,hrep,(hr.take p).append (hr.drop (p+1)),?_⟩;have hlt:p<vs.length:=(Qw.1 hv0).1;have ht:(vs.take p).length=p:=by simp;omega
 have e1:(cutAt p vs).take p=vs.take p:=by
  unfold cutAt;rw[List.take_append_of_le_length (by omega)]
  rw[List.take_take,Nat.min_self]
 have e2:(cutAt p vs).drop p=vs.drop (p+1):=by
  unfold cutAt;rw[List.drop_append_of_le_length (by omega)]
  rw[List.drop_of_length_le (by omega),List.nil_append]
 unfold jF;rw[e1,e2]
 have h3:vs.drop p=v0::vs.drop (p+1):=by rw[QM hlt];congr 1;rw[Qv hlt]at hv0;injection hv0
 rw[QL,List.singleton_append,<-h3,List.take_append_drop]
def SX(hΓ:pD P Γ)(h:Rel E S a w L)(hn:nid<S.N){f:FuncId}{args:List PV}{vs:List Value}(hr:bo w (bl E S L) (S.gh L) args vs)(he:nJ Γ nid S f args=some (x,wr)):
  Enters P f/\Calls P f vs.toArray w (λe w'=>∃v L',e= .returned v/\Rel E (S.fl wr) a w' L'/\bp w' (bl E (S.fl wr) L') ((S.fl wr).gh L') x v):=by
 unfold nJ at he;split at he
 ·cases he
 ·rename_i m hm;obtain⟨hen,hcon,hconN,hrow,hro⟩:=hΓ f m hm;refine⟨hen,?_⟩;split at he
  ·rename_i e k hrk;rw[IH,hrk]at hrow;exact aiC hrow h hr he
  ·rename_i e k hrk;rw[IH,hrk]at hrow;exact aiA hrow h hr he
  ·rename_i e k hrk;rw[IH,hrk]at hrow;exact air hrow h hn hr he
  split at he
  ·rename_i hfresh;split at he
   ·rename_i r0 cs hmm;split at he
    ·rename_i hcond;obtain⟨rfl,rfl⟩:=bZ he;simp only[Qm,Qn]at hcond;obtain⟨hc1,hc2⟩:=hcond
     have key:∃X:Nat->Prop,xG w X/\bo w X ed (args.map (TQ.fz S.H none 9)) vs/\(args.all PV.bJ=true->∀q,bl E S L q->X q):=by
      by_cases hall:args.all PV.bJ=true
      ·exact⟨bl E S L,h.Yf λq hq=>hq,hr.Ay hall (λq hq=>hq),λ_ q hq=>hq⟩
      ·exact⟨λ_=>False,h.x0,hr.fz h (λq hq=>hq.elim) (λj q hj hjl hne hjb hq=>hq),λhq=>absurd hq hall⟩
     obtain⟨X,hX,hargs,hsup⟩:=key;refine(hconN hfresh _ _ _ hmm w X hX vs hargs).mono ?_;rintro e w' ⟨b,rvs,T,rfl,hbge,hh,hrc,hfr⟩
     have hmq:args.all PV.bJ=true->∀q,bl E {S with H:=bU S.H nid ⟨(S.H nid).av+1,.box cs⟩} (bU L nid (.pointer (some ⟨b,0,none⟩))) q->X q\/q=b:=by
      rintro hall q (⟨j,hj,hjl,hjb⟩|hq)
      ·simp only at hj hjl
       by_cases hji:j=nid
       ·subst hji;rw[ct]at hjb;simp only[cd,Qf]at hjb;exact .inr hjb.symm
       ·rw[c7 _ _ hji]at hjl hjb;exact .inl (hsup hall q (.inl ⟨j,hj,hjl,hjb⟩))
      ·exact .inl (hsup hall q (.inr hq))
     obtain⟨h2,hs2,hg2⟩:=h.vR (w':=w') (hdr:=hfr.drawn) hn ⟨(S.H nid).av+1,.box cs⟩ (.pointer (some ⟨b,0,none⟩)) (.inr (Nat.lt_succ_self _)) hfr.os hfr.tape hfr.output hfr.size (λq hq _=>hfr.block q hq (by simp))
      (λq _ hq=> .inr (by simp only[cd,Qf]at hq;omega))
      (λhs2 hg2=>⟨b,rvs.toArray,T,rfl,hh,.inr (QK h.fr.size hbge),by
       simp only;rcases hc2 with hpl|hall
       ·exact hrc.plain hpl
       ·exact hrc.mono (cZ.of λ_ hn' hq=>hn' (hmq hall _ hq)) (ed.le _)⟩)
     refine⟨_,_,rfl,h2,?_⟩;exact .ptr _ _ _ _ hn (by simp[St.gh,St.fl,ct]) (λ_=>by simp[St.gh,St.fl,ct,cd])
    ·cases he
   ·cases he
  rename_i hnf;have hnf':m.fresh=false:=by simpa using hnf
  have hcon:=hcon hnf';split at he
  ·rename_i hrecv;split at he
   ·rename_i id av hpos;generalize hrest:cutAt m.pos args=rest at he;split at he
    ·rename_i hver;split at he
     ·rename_i cs hc;split at he
      ·rename_i hcl;split at he
       ·rename_i r cs' hmm;split at he
        ·rename_i hcond;obtain⟨rfl,rfl⟩:=bZ he
         have hwr:S.fl (if(m.ro&&cs.all PV.VO)=true then none else some (id,(⟨av,.box cs'⟩:gm)))=S.fl (some (id,⟨av,.box cs'⟩)):=by
          split
          ·rename_i hq;rw[Qm]at hq
           have e1:cs.map TQ.nz=cs:=by
            rw[Qq71 (g:=λy=>y) λy hy=>by have:=QH.1 hq.2 y hy;cases y<;>first|rfl|cases this]
            simp
           have e2:=hro hq.1 _ _ _ _ hmm;rw[e1]at e2;rw[e2];show S={S with H:=bU S.H id ⟨av,.box cs⟩}
           have e3:(⟨av,.box cs⟩:gm)=S.H id:=by rw[<-hver,<-hc]
           rw[e3]
           have e4:bU S.H id (S.H id)=S.H:=by
            funext j;unfold bU;split
            ·rename_i e;rw[e]
            ·rfl
           rw[e4]
          ·rfl
         rw[hwr];simp only[Qm,Qn]at hcond;obtain⟨⟨⟨hc1,hc2⟩,hc3⟩,hc4⟩:=hcond;obtain⟨v0,r0,hr',hins⟩:=hr.agQ hpos;rw[hrest]at hr';generalize cutAt m.pos vs=vs' at hr' hins;obtain⟨hN,_⟩:=r0.pP (show(S.gh L).V id=av from hver)
         obtain⟨b,hv0,hL⟩:=h.yO r0 hver hc;obtain⟨b',cur,T,hL',hh,hrc,hE⟩:=h.rY hN hc;rw[hL]at hL';simp only[Value.pointer.injEq,Qf,Addr.mk.injEq]at hL';obtain⟨rfl,_⟩:=hL';have hmb:bl E S L b:= .inl ⟨id,hN,by rw[hc];rfl,by rw[hL];rfl⟩
         have key:∃X:Nat->Prop,xG w X/\(∀q,Mc true b X q->bl E S L q)/\bo w (Mc true b X) ed (rest.map (TQ.fz S.H (some id) 9)) vs'/\(rest.all PV.bJ=true->∀q,bl E S L q->Mc true b X q):=by
          by_cases hall:rest.all PV.bJ=true
          ·refine⟨bl E S L,h.Yf λq hq=>hq,λq hq=> ?_,?_,λ_ q hq=> .inr hq⟩
           ·rcases hq with⟨_,rfl⟩|hq
            ·exact hmb
            ·exact hq
           ·exact hr'.Ay hall (λq hq=>by
             rcases hq with⟨_,rfl⟩|hq
             ·exact hmb
             ·exact hq)
          ·refine⟨λ_=>False,h.x0,λq hq=> ?_,?_,λhq=>absurd hq hall⟩
           ·rcases hq with⟨_,rfl⟩|hq
            ·exact hmb
            ·exact hq.elim
           ·refine hr'.fz h (λq hq=> ?_) (λj q hj hjl hne hjb hq=> ?_)
            ·rcases hq with⟨_,rfl⟩|hq
             ·exact hmb
             ·exact hq.elim
            ·rcases hq with⟨_,rfl⟩|hq
             ·exact hne (by rw[h.apart j id q hj hN hjl (by rw[hc];rfl) hjb (by rw[hL];rfl)])
             ·exact hq
         obtain⟨X,hX,hsub,hargs,hsup⟩:=key;have hcall:=hcon (cs.map TQ.nz) (rest.map (TQ.fz S.H (some id) 9)) r cs' hmm w X hX b T cur.toList vs' (λ_=>⟨by simpa using hh,by rw[hrecv];exact(hrc.closed hcl hsub).nz,GK h hmb⟩) (by rw[hrecv];exact hargs)
         rw[hrecv]at hcall;have hargsv:(jF m.pos (vz true b) vs').toArray=vs.toArray:=by rw[<-hins,hv0];rfl
         rw[hargsv]at hcall;refine hcall.mono ?_;rintro e w' ⟨v,rvs',rfl,hrep,hrv,hfr⟩;obtain⟨⟨T',hh'⟩,hrc'⟩:=hrv rfl;simp only[Qt]at hfr
         have hmm':∀q,bl E {S with H:=bU S.H id ⟨av,.box cs'⟩} (bU L id (L id)) q->bl E S L q:=by
          rintro q (⟨j,hj,hjl,hjb⟩|hq)
          ·simp only at hj hjl;have:bU L id (L id) j=L j:=by by_cases hji:j=id<;>simp[bU,hji]
           rw[this]at hjb
           by_cases hji:j=id
           ·subst hji;exact .inl ⟨j,hj,by rw[hc];rfl,hjb⟩
           ·rw[c7 _ _ hji]at hjl;exact .inl ⟨j,hj,hjl,hjb⟩
          ·exact .inr hq
         have hst:rest.all PV.bJ=true->cZ w' w' (Mc true b X) (bl E {S with H:=bU S.H id ⟨av,.box cs'⟩} (bU L id (L id))):=λhall=>(cZ.of λ_ hnm=>λhq=>hnm (hsup hall _ (hmm' _ hq)))
         obtain⟨h2,hs2,hg2⟩:=h.vR (w':=w') (hdr:=hfr.drawn) hN ⟨av,.box cs'⟩ (L id) (.inl ⟨hver.symm,rfl,by rw[hc];rfl⟩) hfr.os hfr.tape hfr.output hfr.size
          (λq hq hne=>hfr.block q hq (λeq=>hne (by rw[hc];rfl) (by rw[hL];exact eq)))
          (λq _ hq=> .inl ⟨by rw[hc];rfl,hq⟩)
          (λhs2 hg2=>⟨b,rvs'.toArray,T',hL,hh',hE,by
           simp only;rcases hc4 with hpl|hall
           ·exact hrc'.plain hpl
           ·exact hrc'.mono (hst hall) (ed.le _)⟩)
         refine⟨v,_,rfl,h2,?_⟩;rcases hc1 with hpl|hall
         ·exact hrep.vV hpl
         ·exact hrep.mono (hst hall) (ed.le _)
        ·cases he
       ·cases he
      ·cases he
     ·cases he
    ·cases he
   ·cases he
  ·rename_i hrecv;split at he
   ·rename_i r cs' hmm;split at he
    ·rename_i hcond;obtain⟨rfl,rfl⟩:=bZ he;simp only[Qn,Qm]at hcond;have hrecv':m.recv=false:=by simpa using hrecv
     have key:∃X:Nat->Prop,xG w X/\bo w (Mc false 0 X) ed (args.map (TQ.fz S.H none 9)) vs/\(args.all PV.bJ=true->∀q,bl E S L q->Mc false 0 X q):=by
      by_cases hall:args.all PV.bJ=true
      ·refine⟨bl E S L,h.Yf λq hq=>hq,?_,λ_ q hq=> .inr hq⟩
       exact hr.Ay hall (λq hq=>by
        rcases hq with⟨hq,_⟩|hq
        ·cases hq
        ·exact hq)
      ·refine⟨λ_=>False,h.x0,?_,λhq=>absurd hq hall⟩
       refine hr.fz h (λq hq=> ?_) (λj q hj hjl hne hjb hq=> ?_)
       ·rcases hq with⟨hq,_⟩|hq
        ·cases hq
        ·exact hq.elim
       ·rcases hq with⟨hq,_⟩|hq
        ·cases hq
        ·exact hq
     obtain⟨X,hX,hargs,hsup⟩:=key;have hcall:=hcon [] (args.map (TQ.fz S.H none 9)) r cs' hmm w X hX 0 0 [] vs (λhq=>by rw[hrecv']at hq;cases hq) (by rw[hrecv'];exact hargs)
     rw[hrecv']at hcall;simp only[vz,Qq,Qu,TX]at hcall;refine hcall.mono ?_;rintro e w' ⟨v,rvs',rfl,hrep,_,hfr⟩;simp only[Qq,Qu]at hfr;obtain⟨h2,hs2⟩:=h.grow (w':=w') hfr.os hfr.tape hfr.output hfr.size (λq hq=>hfr.block q hq (by simp)) hfr.drawn
     refine⟨v,L,rfl,h2,?_⟩;rcases hcond with hpl|⟨hall,_⟩
     ·exact hrep.vV hpl
     ·exact hrep.mono (cZ.of λ_ hnm=>λhq=>hnm (hsup hall _ hq)) (ed.le _)
    ·cases he
   ·cases he
end
end
section
open Go.RowKit
section
variable {P : Program} {E : En} {S : St} {a : Act} {w : World} {L : Nat -> Value} {o : Oper} {x : PV} {wr : Option (Nat × gm)} {Γ : qv} {nid : Nat} {hs : List Nat}
def Hq{α:Type}(f:Nat->α)(i:Nat):bU f i (f i)=f:=by
 funext j;unfold bU;split
 ·rename_i h;rw[h]
 ·rfl
def Rel.kill(h:Rel E S a w L){id:Nat}(hid:id<S.N)(hl:(S.H id).c.live=true):Rel E {S with H:=bU S.H id ⟨(S.H id).av,.dead⟩} a w L:=by
 have:=(h.vR (w':=w) hid ⟨(S.H id).av,.dead⟩ (L id) (.inl ⟨rfl,rfl,hl⟩) rfl rfl rfl (QI _) (λ_ _ _=>rfl) (λb hl=>by cases hl) (λ_ _=>trivial)).1
 rwa [Hq]at this
def Rel.aip(h:Rel E S a w L){id e k:Nat}{es:List (List PV)}(hN:id<S.N)(hc:(S.H id).c= .row e k es)(hcl:∀u∈es,u.all PV.closed=true):
  Rel E {S with H:=bU S.H id ⟨(S.H id).av,.dead⟩} a w L/\∀v,v=L id->bp w (bl E {S with H:=bU S.H id ⟨(S.H id).av,.dead⟩} L) (St.gh {S with H:=bU S.H id ⟨(S.H id).av,.dead⟩} L) (.sl es) v:=by
 have hlive:(S.H id).c.live=true:=by rw[hc];rfl
 refine⟨h.kill hN hlive,λv hv=> ?_⟩
 obtain⟨vs,hown,hk,hr⟩:=h.lx hN hc;rw[hv]
 have hM:∀b,bl E {S with H:=bU S.H id ⟨(S.H id).av,.dead⟩} L b->bl E S L b/\(cd (L id)=some b->E.X b):=by
  rintro b (⟨j,hj,hlv,hb⟩|hx)
  ·simp only at hj hlv
   by_cases hji:j=id
   ·subst hji;rw[ct]at hlv;cases hlv
   ·rw[c7 _ _ hji]at hlv;exact⟨.inl ⟨j,hj,hlv,hb⟩,λhb'=>absurd (h.apart j id b hj hN hlv hlive hb hb') hji⟩
  ·exact⟨.inr hx,λ_=>hx⟩
 rcases hown.2 with⟨hL,h0⟩|⟨g,cap,cur,hL,hb1,hh,hnc,hcm,_⟩
 ·have:es=[]:=Qq67 h0;subst this;rw[hL];exact .slnil
 ·rw[hL]
  have hcf:es.flatten.all PV.closed=true:=by
   refine QH.2 λy hy=> ?_
   obtain⟨u,hu,hyu⟩:=List.mem_flatten.1 hy;exact QH.1 (hcl u hu) y hyu
  have hr2:=bo.closed (M':=bl E {S with H:=bU S.H id ⟨(S.H id).av,.dead⟩} L) (G':=ed) hcf (λb hb=>(hM b hb).1) hr
  refine .sl _ _ _ k vs hk hr2.1 (λi u hu=>⟨hown.cells (g:=g) (by rw[hL];rfl) i u hu,λhm=> ?_⟩) hr2.2 (by simpa using hnc) hcm
  have hxg:=(hM g hm).2 (by rw[hL];rfl)
  have hbg:cd (L id)=some g:=by rw[hL];rfl
  by_cases hH:E.H0 g
  ·exact(h.an.2.2 g hH).2.2 id hN hlive hbg
  rcases HG hbg hb1 with⟨h6,h7⟩|h6
  ·exact E.PO h6 g h7 hxg
  ·have:=E.hX.lt g ⟨hxg,hH⟩;omega
def Rel.Dh(h:Rel E S a w L){id e k:Nat}{es:List (List PV)}{v:Value}(r:bp w (bl E S L) (S.gh L) (.own id (S.H id).av) v)(hc:(S.H id).c= .row e k es)(hcl:∀u∈es,u.all PV.closed=true):
  Rel E {S with H:=bU S.H id ⟨(S.H id).av,.dead⟩} a w L/\bp w (bl E {S with H:=bU S.H id ⟨(S.H id).av,.dead⟩} L) (St.gh {S with H:=bU S.H id ⟨(S.H id).av,.dead⟩} L) (.sl es) v:=by
 obtain⟨hN,hv⟩:=r.n4 (show(S.gh L).V id=(S.H id).av from rfl)
 obtain⟨h1,h2⟩:=h.aip hN hc hcl;exact⟨h1,h2 v hv⟩
def aej{e k b:Nat}{s y:bB}(he:exec Γ nid S (.cz true e k b s y)=some (x,wr)):∃id av es,exec Γ nid S (.cz false e k b s y)=some (.own id av,some (id,⟨av,.row e k es⟩))/\x= .sl es/\wr=some (id,⟨av,.dead⟩)/\∀u∈es,u.all PV.closed=true:=by
 have key:∀{id av:Nat} {es:List (List PV)},KP true id av e k es=some (x,wr)->∃id' ver' es',KP false id av e k es=some (.own id' ver',some (id',⟨ver',.row e k es'⟩))/\x= .sl es'/\wr=some (id',⟨ver',.dead⟩)/\∀u∈es',u.all PV.closed=true:=by
  intro id av es h;simp only[KP]at h;split at h
  ·rename_i hall;obtain⟨rfl,rfl⟩:=bZ h;exact⟨id,av,es,rfl,rfl,rfl,λu hu=>QH.1 hall u hu⟩
  ·cases h
 simp only[exec]at he ⊢;split at he
 ·rename_i news hn;split at he
  ·rename_i hall;simp only[hall,Qt];split at he
   ·split at he
    ·rename_i hb;rw[Qr hb];exact key he
    ·cases he
   ·rename_i id av hv;split at he
    ·rename_i hver;rw[Qr hver];split at he
     ·rename_i e' k' es hc;split at he
      ·rename_i hb;simp only[Qr hb];exact key he
      ·cases he
     ·cases he
    ·cases he
   ·cases he
  ·cases he
 ·cases he
def Good.Dh{id av e k:Nat}{es:List (List PV)}(h:Good P E S a w o (.own id av) (some (id,⟨av,.row e k es⟩)))(hcl:∀u∈es,u.all PV.closed=true):Good P E S a w o (.sl es) (some (id,⟨av,.dead⟩)):=by
 obtain⟨nx,w',L',v,h1,h2,h3,h4⟩:=h;have hH:(S.fl (some (id,⟨av,.row e k es⟩))).H id=⟨av,.row e k es⟩:=ct _ _ _;have hv:((S.fl (some (id,⟨av,.row e k es⟩))).H id).av=av:=by rw[hH]
 have hc:((S.fl (some (id,⟨av,.row e k es⟩))).H id).c= .row e k es:=by rw[hH]
 generalize hS:S.fl (some (id,⟨av,.row e k es⟩))=S1 at h3 h4 hH hv hc;rw[<-hv]at h3;obtain⟨g1,g2⟩:=h4.Dh h3 hc hcl;rw[hv,<-hS]at g1 g2
 have e1:({S.fl (some (id,⟨av,.row e k es⟩))with H:=bU (S.fl (some (id,⟨av,.row e k es⟩))).H id ⟨av,.dead⟩}:St)=S.fl (some (id,⟨av,.dead⟩)):=by
  unfold St.fl;simp only[St.mk.injEq,true_and,and_true]
  funext j
  unfold bU;split<;>rfl
 rw[e1]at g1 g2;exact⟨nx,w',L',v,h1,h2,g2,g1⟩
def nB{f:FuncId}(hen:Enters P f)(args:Array Value):(callFunc f args).run P w= .ok (.enter f args) w:=by
 obtain⟨fn,hf,hb,hn⟩:=hen;have hb':¬fn.body=none:=by intro e;rw[e]at hb;cases hb
 have hn':¬fn.name= "runtime.NumGoroutine":=by simpa using hn
 simp[callFunc,program,Sem.run,hf,hb',hn']
def SV{f:FuncId}{args:Array Value}(hrun:(execOp a.eval o).run P w= .ok (.enter f args) w)
  (hcall:Calls P f args w (λe w'=>∃v L',e= .returned v/\Rel E (S.fl wr) a w' L'/\bp w' (bl E (S.fl wr) L') ((S.fl wr).gh L') x v)) (hnd:LJ o) (hd:∀t,o.dst=some t->E.can t) {K:Act->World->Prop} {Q:Exit->Act->World->Prop}
  (hK:∀a' w' L',Rel E (S.cz o.dst x wr) a' w' L'->K a' w'):o.wpIn (WF E.rd) 0 P a w K Q:=by
 unfold Oper.wpIn;rw[Oper.semAt_eq _ _ _ hnd,hrun];refine⟨λ_ _=>trivial,(λh=>by cases h),DK.2 (Calls.mono hcall ?_)⟩
 rintro e w' ⟨v,L',rfl,h1,h2⟩;exact hK _ _ _ (show Rel E (S.cz o.dst x wr) (a.put o.dst v) w' L' from h1.ZN hd h2)
def WX{f:FuncId}{xs:List bB}(hc:FH P hs o=some (.call f xs)):∃(args:Array Operand) (ats:Array TypeId),o.op= .call {callee:= .value (.func f),args:=args,argTypes:=ats}/\args.toList.mapM bH=some xs:=by
 unfold FH at hc;split at hc
 case h_22 fop args ats hop=>
  simp only[Qd,Qc]at hc;obtain⟨ys,hys,hc⟩:=hc;split at hc
  ·injection hc with hc
   injection hc with h1 h2
   subst h1 h2;exact⟨_,_,hop,hys⟩
  ·simp only[Qc,Qf,reduceCtorEq,and_false,exists_false]at hc
 all_goals (repeat' split at hc)<;>(try simp only[Qd,Qc,Qf,reduceCtorEq,and_false,exists_false]at hc)<;>(try (obtain⟨_,_,hc⟩:=hc))<;>(try (obtain⟨_,_,hc⟩:=hc))<;>(try (obtain⟨_,_,hc⟩:=hc))<;>(repeat' split at hc)<;>(try simp only[Qd,Qc,Qf,reduceCtorEq,and_false,exists_false]at hc)<;>cases hc
def Ce{s:cu}(hc:FH P hs o=some s):LJ o:=by intro c e;unfold FH at hc;rw[e]at hc;cases hc
def aag(hΓ:pD P Γ){s:cu}(hc:FH P hs o=some s)(h:Rel E S a w L)(hn:nid<S.N)(he:exec Γ nid S s=some (x,wr))(hd:∀t,o.dst=some t->E.can t){K:Act->World->Prop}{Q:Exit->Act->World->Prop}
  (hK:∀a' w' L',Rel E (S.cz o.dst x wr) a' w' L'->K a' w'):o.wpIn (WF E.rd) 0 P a w K Q:=by
 have hnd:LJ o:=Ce hc;unfold FH at hc;split at hc
 case h_1 y hop=>simp only[Qd,Qc,Qf]at hc;obtain⟨y',hy,rfl⟩:=hc;simp only[exec]at he;obtain⟨rfl,rfl⟩:=bZ he;exact(ae1 h (.inl hop) hy).wp hnd hd hK
 case h_2 y hop=>simp only[Qd,Qc,Qf]at hc;obtain⟨y',hy,rfl⟩:=hc;simp only[exec]at he;obtain⟨rfl,rfl⟩:=bZ he;exact(ae1 h (.inr hop) hy).wp hnd hd hK
 case h_3 c y z hop=>simp only[Qd,Qc,Qf]at hc;obtain⟨c',hc',y',hy,z',hz,rfl⟩:=hc;exact(aii h hop hc' hy hz he).wp hnd hd hK
 case h_4 t y hop=>
  simp only[Qd,Qc,Qf]at hc;obtain⟨y',hy,rfl⟩:=hc;split at he
  ·split at he
   ·exact(ain h hop hy he).wp hnd hd hK
   ·exact(ae4 h hn hop hy he).wp hnd hd hK
  ·exact(ae4 h hn hop hy he).wp hnd hd hK
 case h_5 t hop=>simp only[Qd,Qc,Qf]at hc;obtain⟨z,hz,rfl⟩:=hc;exact(agx h hn hop hz he).wp hnd hd hK
 case h_6 t y hop=>simp only[Qd,Qc,Qf]at hc;obtain⟨n,hn',y',hy,rfl⟩:=hc;exact(aij h hop hn' hy he).wp hnd hd hK
 case h_7 t y z hop=>simp only[Qd,Qc,Qf]at hc;obtain⟨i,hi,y',hy,z',hz,rfl⟩:=hc;exact(ags h hop hi hy hz he).wp hnd hd hK
 case h_8 t parts hop=>
  split at hc
  ·rename_i fields hu;simp only[Qd,Qc,Qf]at hc;obtain⟨z,hz,places,hp,ps,hps,rfl⟩:=hc;exact(YQ h hop hz (.inl ⟨fields,places,hu,hp,hps⟩) he).wp hnd hd hK
  ·rename_i n e hu;simp only[Qd,Qc,Qf]at hc;obtain⟨z,hz,i,hi,ps,hps,rfl⟩:=hc;exact(YQ h hop hz (.inr ⟨n,e,i,hu,hi,hps⟩) he).wp hnd hd hK
  ·cases hc
 case h_9 t len parts hop=>
  split at hc
  ·rename_i e hu;simp only[Qd,Qc]at hc;obtain⟨i,hi,z,hz,ps,hps,hc⟩:=hc;split at hc
   ·rename_i hb;injection hc with hc
    subst hc;exact(ajD h hn hop hu hi hz hps hb.1 hb.2.1 hb.2.2 he).wp hnd hd hK
   ·cases hc
  ·cases hc
 case h_10 s0 y f hop=>
  split at hc
  ·rename_i fields hu;simp only[Qd,Qc]at hc;obtain⟨fd,hf,i,hi,hc⟩:=hc;split at hc
   ·cases hc
   ·rename_i h0;simp only[Qc,Qf]at hc;obtain⟨y',hy,rfl⟩:=hc;exact(agv h hop hu hf hi h0 hy he).wp hnd hd hK
  ·cases hc
 case h_11 t y z hop=>
  split at hc
  ·rename_i e hu;simp only[Qd,Qc,Qf]at hc;obtain⟨i,hi,y',hy,z',hz,rfl⟩:=hc;exact(agu h hop hu hi hy hz he).wp hnd hd hK
  ·cases hc
 case h_12 op t y z t2 hop=>
  split at hc
  ·rename_i fs hu;split at hc
   ·rename_i f g hfs;split at hc
    ·rename_i k0 hf hg;split at hc
     ·rename_i hb;obtain⟨b1,b2,b3,b4,b5,b6⟩:=hb;split at hc
      ·simp only[Qd,Qc,Qf]at hc;obtain⟨y',hy,z',hz,rfl⟩:=hc;exact(ae3 (neg:=false) h (by simpa using hop) hu hfs hf hg b1 b2 b3 b4 b5 b6 hy hz he).wp hnd hd hK
      ·simp only[Qd,Qc,Qf]at hc;obtain⟨y',hy,z',hz,rfl⟩:=hc;exact(ae3 (neg:=true) h (by simpa using hop) hu hfs hf hg b1 b2 b3 b4 b5 b6 hy hz he).wp hnd hd hK
      ·cases hc
     ·cases hc
    ·split at hc
     ·rename_i ks hks;split at hc
      ·rename_i hgu;split at hc
       ·simp only[Qd,Qc,Qf]at hc;obtain⟨y',hy,z',hz,rfl⟩:=hc;exact(UX (neg:=false) h (by simpa using hop) hu hks hgu hy hz he).wp hnd hd hK
       ·simp only[Qd,Qc,Qf]at hc;obtain⟨y',hy,z',hz,rfl⟩:=hc;exact(UX (neg:=true) h (by simpa using hop) hu hks hgu hy hz he).wp hnd hd hK
       ·cases hc
      ·cases hc
     ·cases hc
   ·split at hc
    ·rename_i ks hks;split at hc
     ·rename_i hgu;split at hc
      ·simp only[Qd,Qc,Qf]at hc;obtain⟨y',hy,z',hz,rfl⟩:=hc;exact(UX (neg:=false) h (by simpa using hop) hu hks hgu hy hz he).wp hnd hd hK
      ·simp only[Qd,Qc,Qf]at hc;obtain⟨y',hy,z',hz,rfl⟩:=hc;exact(UX (neg:=true) h (by simpa using hop) hu hks hgu hy hz he).wp hnd hd hK
      ·cases hc
     ·cases hc
    ·cases hc
  ·rename_i e hu;split at hc
   ·split at hc
    ·simp only[Qd,Qc,Qf]at hc;obtain⟨y',hy,rfl⟩:=hc;exact(YP (neg:=false) h (by simpa using hop) hu hy he).wp hnd hd hK
    ·simp only[Qd,Qc,Qf]at hc;obtain⟨y',hy,rfl⟩:=hc;exact(YP (neg:=true) h (by simpa using hop) hu hy he).wp hnd hd hK
    ·cases hc
   ·cases hc
  ·rename_i hu;split at hc
   ·simp only[Qd,Qc,Qf]at hc;obtain⟨y',hy,z',hz,rfl⟩:=hc;exact(ae2 (neg:=false) h (by simpa using hop) hu hy hz he).wp hnd hd hK
   ·simp only[Qd,Qc,Qf]at hc;obtain⟨y',hy,z',hz,rfl⟩:=hc;exact(ae2 (neg:=true) h (by simpa using hop) hu hy hz he).wp hnd hd hK
   ·cases hc
  ·simp only[Qd,Qc,Qf]at hc;obtain⟨y',hy,z',hz,rfl⟩:=hc;exact(ajE h hop hy hz he).wp hnd hd hK
 case h_13 t y hop=>simp only[Qd,Qc,Qf]at hc;obtain⟨y',hy,rfl⟩:=hc;exact(ajx h hop hy he).wp hnd hd hK
 case h_14 src dst y hop=>
  split at hc
  ·rename_i k0 k hs ht;simp only[Qd,Qc,Qf]at hc;obtain⟨y',hy,rfl⟩:=hc;exact(aim h hop hs ht hy he).wp hnd hd hK
  ·cases hc
 case h_15 t y z hop=>
  split at hc
  ·rename_i len e hu;simp only[Qd,Qc,Qf]at hc;obtain⟨n,hn,i,hi,y',hy,z',hz,rfl⟩:=hc;exact(aio h hop hu hn hi hy hz he).wp hnd hd hK
  ·cases hc
 case h_16 t y z ok hop=>cases hc
 case h_17 y hop=>simp only[Qd,Qc,Qf]at hc;obtain⟨y',hy,rfl⟩:=hc;exact(agt h hop hy he).wp hnd hd hK
 case h_18 y i hop=>simp only[Qd,Qc,Qf]at hc;obtain⟨y',hy,rfl⟩:=hc;exact(ail h hop hy he).wp hnd hd hK
 case h_19 f first caps hop=>
  split at hc
  ·rename_i h0;simp only[Qd,Qc,Qf]at hc;obtain⟨cs,hcs,rfl⟩:=hc;exact(ajz h hop h0 hcs he).wp hnd hd hK
  ·split at hc
   ·rename_i h0;simp only[Qd,Qc,Qf]at hc;obtain⟨cs,hcs,rfl⟩:=hc;exact(ajA h hop h0 hcs he).wp hnd hd hK
   ·cases hc
 case h_20 t l c hop=>
  split at hc
  ·rename_i e hu;simp only[Qd,Qc]at hc;obtain⟨i,hi,hc⟩:=hc;split at hc
   ·rename_i h0;simp only[Qc,Qf]at hc;obtain⟨z,hz,l',hl,c',hc',rfl⟩:=hc;exact(ajy h hn hop hu hi h0 hz hl hc' he).wp hnd hd hK
   ·cases hc
  ·cases hc
 case h_21 t y lo hi hop=>
  split at hc
  ·rename_i e hu;simp only[Qd,Qc,Qf]at hc;obtain⟨i,hi0,y',hy,lo',hlo,hi',hhi,rfl⟩:=hc;exact(ajw h hop hu hi0 hy hlo hhi he).wp hnd hd hK
  ·cases hc
 case h_22 fop args ats hop=>
  simp only[Qd,Qc]at hc;obtain⟨xs,hxs,hc⟩:=hc;have hr:=h.dS hxs;have ha:args.map a.eval=(args.toList.map a.eval).toArray:=by rw[<-Array.toList_map,Array.toArray_toList]
  split at hc
  ·rename_i f;injection hc with hc
   subst hc;simp only[exec]at he;obtain⟨hen,hcall⟩:=SX hΓ h hn hr he;exact SV (by simp[execOp,hop,resolve,Act.eval,Deferred.ofValue,invoke,ha,nB hen]) hcall hnd hd hK
  ·simp only[Qc,Qf]at hc;obtain⟨fv,hfv,rfl⟩:=hc;have rf:=h.jL hfv;simp only[exec]at he;split at he
   ·rename_i f caps ef;rw[ef]at rf;obtain⟨vs,hv,hrc⟩:=rf.xk;obtain⟨hen,hcall⟩:=SX hΓ h hn (hr.append hrc) he;refine SV ?_ hcall hnd hd hK;simp only[execOp,hop,resolve,hv,Deferred.ofValue,Sem.run_bind,Sem.run_pure,Result.andThen_ok,invoke,ha];simp[nB hen]
   ·rename_i f caps ef;rw[ef]at rf;obtain⟨vs,hv,hrc⟩:=rf.SY;obtain⟨hen,hcall⟩:=SX hΓ h hn (hrc.append hr) he;refine SV ?_ hcall hnd hd hK;simp only[execOp,hop,resolve,hv,Deferred.ofValue,Sem.run_bind,Sem.run_pure,Result.andThen_ok,invoke,ha];simp[nB hen]
   ·cases he
 case h_23 b args ats hop=>
  split at hc
  ·rename_i y t hargs hats;have ha:args=#[y]:=by rw[<-Array.toArray_toList (xs:=args),hargs]
   have hb:ats=#[t]:=by rw[<-Array.toArray_toList (xs:=ats),hats]
   subst ha hb;split at hc
   ·rename_i hu;simp only[Qd,Qc,Qf]at hc;obtain⟨y',hy,rfl⟩:=hc;exact(aik h hop hu hy he).wp hnd hd hK
   ·rename_i e hu;simp only[Qd,Qc,Qf]at hc;obtain⟨y',hy,rfl⟩:=hc;exact(ajB h hop hu hy he).wp hnd hd hK
   ·cases hc
  ·rename_i y z t t' hargs hats;have ha:args=#[y,z]:=by rw[<-Array.toArray_toList (xs:=args),hargs]
   have hb:ats=#[t,t']:=by rw[<-Array.toArray_toList (xs:=ats),hats]
   subst ha hb;split at hc
   ·rename_i e hu;simp only[Qd,Qc]at hc;obtain⟨i,hi,zv,hzv,hc⟩:=hc;split at hc
    ·rename_i hb;obtain⟨rfl,b2,b3⟩:=hb;simp only[Qc,Qf]at hc;obtain⟨y',hy,z',hz,rfl⟩:=hc
     cases hf:aez hs o with
     |false=>rw[hf]at he;exact(ae5 h hn hop hu hi hzv b2 b3 hy hz he).wp hnd hd hK
     |true=>rw[hf]at he;obtain⟨id,av,es,g1,rfl,rfl,g2⟩:=aej he;exact((ae5 h hn hop hu hi hzv b2 b3 hy hz g1).Dh g2).wp hnd hd hK
    ·cases hc
   ·cases hc
  ·rename_i y t hargs hats;have ha:args=#[y]:=by rw[<-Array.toArray_toList (xs:=args),hargs]
   have hb:ats=#[t]:=by rw[<-Array.toArray_toList (xs:=ats),hats]
   subst ha hb;split at hc
   ·rename_i e hu;simp only[Qd,Qc,Qf]at hc;obtain⟨i,hi,z,hz,y',hy,rfl⟩:=hc;exact(agw h hop hu hi hz hy he).wp hnd hd hK
   ·cases hc
  ·rename_i y z hargs;have ha:args=#[y,z]:=by rw[<-Array.toArray_toList (xs:=args),hargs]
   subst ha;simp only[Qd,Qc,Qf]at hc;obtain⟨y',hy,z',hz,rfl⟩:=hc;exact(Wy (mx:=false) h (by simpa using hop) hy hz he).wp hnd hd hK
  ·rename_i y z hargs;have ha:args=#[y,z]:=by rw[<-Array.toArray_toList (xs:=args),hargs]
   subst ha;simp only[Qd,Qc,Qf]at hc;obtain⟨y',hy,z',hz,rfl⟩:=hc;exact(Wy (mx:=true) h (by simpa using hop) hy hz he).wp hnd hd hK
  ·cases hc
 case h_24 t y i hop=>
  split at hc
  ·rename_i fs hu;split at hc
   ·rename_i f hf;simp only[Qd,Qc,Qf]at hc;obtain⟨n,hn,y',hy,rfl⟩:=hc;exact(ajC h hop hu hf hn hy he).wp hnd hd hK
   ·cases hc
  ·cases hc
 case h_25=>cases hc
end
end
section
open Go.RowKit
def wF(P:Program)(hs:List Nat)(ops:Array Oper)(o:Oper):Option SG:=
 match FH P hs o with
 |none=>none
 |some s=>
  match o.guard with
  |none=>some ⟨o.dst,none,s⟩
  |some (j,want)=>
   match ops[j]? with
   |none=>none
   |some oj=>
    match oj.dst with
    |none=>none
    |some t=>some ⟨o.dst,some (t,want),s⟩
section
variable {P : Program} {E : En} {S : St} {a : Act} {w : World} {L : Nat -> Value} {Γ : qv} {hs : List Nat}
def KG{ops:Array Oper}{o:Oper}{g:SG}(h:wF P hs ops o=some g):FH P hs o=some g.op/\g.d=o.dst/\
  ((o.guard=none/\g.g=none)\/∃j want oj t,o.guard=some (j,want)/\ops[j]?=some oj/\oj.dst=some t/\g.g=some (t,want)):=by
 unfold wF at h;split at h
 ·cases h
 ·rename_i s hs;split at h
  ·rename_i hg;injection h with h
   subst h;exact⟨hs,rfl,.inl ⟨hg,rfl⟩⟩
  ·rename_i j want hg;split at h
   ·cases h
   ·rename_i oj hoj;split at h
    ·cases h
    ·rename_i t ht;injection h with h
     subst h;exact⟨hs,rfl,.inr ⟨j,want,oj,t,hg,hoj,ht,rfl⟩⟩
def Td{ops:Array Oper}{o:Oper}{g:SG}(h:Rel E S a w L)(hc:wF P hs ops o=some g){b:Bool}(hw:g.wanted S=some b):Region.wanted o (yielded ops a.tmps)=b:=by
 obtain⟨_,_,hg⟩:=KG hc;unfold SG.wanted at hw;rcases hg with⟨h1,h2⟩|⟨j,want,oj,t,h1,h2,h3,h4⟩
 ·rw[h2]at hw;injection hw with hw
  subst hw;simp[Region.wanted,h1]
 ·rw[h4]at hw;simp only at hw;have he:=h.env t;split at hw
  ·rename_i b' eb;rw[eb]at he;have hv:=he.oJ;injection hw with hw
   subst hw
   have:a.tmps[t]?=some (.bool b'):=by
    rw[QN]at hv
    cases hq:a.tmps[t]? with
    |none=>rw[hq]at hv;simp[undef]at hv
    |some v=>rw[hq]at hv;simp at hv;rw[hv]
   simp[Region.wanted,h1,yielded,h2,h3,this]
  ·rename_i eb;rw[eb]at he;have hv:=he.aa1;injection hw with hw
   subst hw
   have:yielded ops a.tmps j=none:=by
    simp only[yielded,h2,h3,Qa];rw[QN]at hv
    cases hq:a.tmps[t]? with
    |none=>rfl
    |some v=>rw[hq]at hv;simp at hv;rw[hv];rfl
   simp[Region.wanted,h1,this]
  ·cases hw
def zw(hΓ:pD P Γ){ops:Array Oper}{o:Oper}{g:SG}(hc:wF P hs ops o=some g)(h:Rel E S a w L){nid:Nat}(hn:nid<S.N)(hd:∀t,o.dst=some t->E.can t){S':St}(hs:ya Γ nid S g=some S'){K:Act->World->Prop}{Q:Exit->Act->World->Prop}
  (hK:∀a' w' L',Rel E S' a' w' L'->K a' w'):if Region.wanted o (yielded ops a.tmps)=true then o.wpIn (WF E.rd) 0 P a w K Q else(∀f,o.about P w a.eval=some f->(WF E.rd).fn f)/\K (a.put o.dst undef) w:=by
 obtain⟨hcop,hgd,_⟩:=KG hc;unfold ya at hs;split at hs
 ·rename_i hw;rw[Td h hc hw,Qr rfl];simp only[Qb]at hs;obtain⟨⟨x,wr⟩,he,rfl⟩:=hs;rw[hgd]at hK;exact aag hΓ hcop h hn he hd hK
 ·rename_i hw;rw[Td h hc hw,Qs (by simp)]
  injection hs with hs
  subst hs;rw[hgd]at hK;exact⟨λ_ _=>trivial,hK _ _ _ (h.ZN hd .undef)⟩
 ·cases hs
def aeF{nid:Nat}{g:SG}{S':St}(hs:ya Γ nid S g=some S'):S'.N=S.N:=by
 unfold ya at hs;split at hs
 ·simp only[Qb]at hs;obtain⟨p,_,rfl⟩:=hs;rfl
 ·injection hs with hs;subst hs;rfl
 ·cases hs
def HF(hΓ:pD P Γ){ops:Array Oper}:∀(l:List Oper) (gs:List SG) (nid:Nat) (S S':St) (a:Act) (w:World) (L:Nat->Value),l.mapM (wF P hs ops)=some gs->Rel E S a w L->nid+l.length<=S.N->
  (∀o∈l,∀t,o.dst=some t->E.can t)->CW Γ nid gs S=some S'->∀{Q:Exit->Act->World->Prop},(∀a' w' L',Rel E S' a' w' L'->Q .normal a' w')->wpListIn (WF E.rd) 0 P ops Q l a w
 |[],gs,nid,S,S',a,w,L,hm,h,hN,hd,hr,Q,hQ=>by simp at hm;subst hm;simp only[CW,Qf]at hr;subst hr;exact hQ a w L h
 |o::l,gs,nid,S,S',a,w,L,hm,h,hN,hd,hr,Q,hQ=>by
  simp only[Qq75,Qd,Qc,Option.pure_def,Qf]at hm;obtain⟨g,hg,gs',hgs,rfl⟩:=hm;simp only[CW]at hr;split at hr
  ·rename_i S1 hs;refine wpListIn_step λK hK=> ?_
   refine zw hΓ hg h (by simp at hN;omega) (hd o (by simp)) hs (λa' w' L' h'=>hK _ _ ?_)
   exact HF hΓ l gs' (nid+1) S1 S' a' w' L' hgs h' (by rw[aeF hs];simp at hN;omega) (λo' ho'=>hd o' (by simp[ho'])) hr hQ
  ·cases hr
inductive SC where
 |skip
 |tZ (ops:List SG)
 |rV (un:List (Nat×Nat)) (ops:List SG)
 |seq (x y:SC)
 |cond (c:bB) (x y:SC)
 |block (id:Nat) (c:SC)
 |loop (c:SC)
 |GC (g:bB) (ps:List Nat) (x y:SC)
 |exit (id:Nat)
 |ret
def mC:Code->List Nat
 | .region _ ops _=>ops.toList.filterMap (·.dst)
 | .seq x y| .cond _ x y=>mC x++mC y
 | .block _ c| .loop c=>mC c
 | .rangeFunc _ ps x y=>ps.toList++mC x++mC y
 |_=>[]
def yP:Code->Bool
 | .seq x y| .cond _ x y=>yP x&&yP y
 | .block _ c| .loop c=>yP c
 | .rangeFunc ..=>false
 |_=>true
def FR(E:En)(c:Code):Prop:=(∀t∈mC c,E.kt t=none)/\((E.rd=none/\E.nd=false)\/yP c=true)
def FR.akv{E:En}{x y:Code}(h:FR E (.seq x y)):FR E x:=⟨λt ht=>h.1 t (List.mem_append_left _ ht),h.2.imp id λe=>by simp only[yP,Qm]at e;exact e.1⟩
def FR.aku{E:En}{x y:Code}(h:FR E (.seq x y)):FR E y:=⟨λt ht=>h.1 t (List.mem_append_right _ ht),h.2.imp id λe=>by simp only[yP,Qm]at e;exact e.2⟩
def FR.afc{E:En}{c:Operand}{x y:Code}(h:FR E (.cond c x y)):FR E x:=⟨λt ht=>h.1 t (List.mem_append_left _ ht),h.2.imp id λe=>by simp only[yP,Qm]at e;exact e.1⟩
def FR.afb{E:En}{c:Operand}{x y:Code}(h:FR E (.cond c x y)):FR E y:=⟨λt ht=>h.1 t (List.mem_append_right _ ht),h.2.imp id λe=>by simp only[yP,Qm]at e;exact e.2⟩
def Xc{E:En}{id:Nat}{ops:Array Oper}{d:Bool}{nt:Nat}(hE:E.nt=nt)(hk:FR E (.region id ops d))(hd:∀o∈ops.toList,∀t,o.dst=some t->t<nt):∀o∈ops.toList,∀t,o.dst=some t->E.can t:=
 λo ho t ht=>⟨by rw[hE];exact hd o ho t ht,hk.1 t (List.mem_filterMap.2 ⟨o,ho,ht⟩)⟩
def V(P:Program)(nt:Nat)(c:Code)(Q:Exit->St->Prop)(S:St):Prop:=
 ∀(E:En),E.nt=nt->FR E c->∀(a:Act) (w:World) (L:Nat->Value),Rel E S a w L->c.wpIn (WF E.rd) 0 P (λe a' w'=>∃S' L',Rel E S' a' w' L'/\Q e S') a w
def V.mono{nt:Nat}{c:Code}{Q Q':Exit->St->Prop}(h:V P nt c Q S)(hq:∀e S,Q e S->Q' e S):V P nt c Q' S:=
 λE hE hk a w L hr=>wpIn_mono (h E hE hk a w L hr) λ_ _ _ ⟨S',L',h1,h2⟩=>⟨S',L',h1,hq _ _ h2⟩
def RP(K:St->Prop)(Q:Exit->St->Prop):Exit->St->Prop
 | .normal,S=>K S
 | .exit i,S=>Q (.exit i) S
 | .goto l,S=>Q (.goto l) S
 | .ret,S=>Q .ret S
 | .panic c,S=>Q (.panic c) S
 | .outgrown,S=>Q .outgrown S
def Ha(id:Nat)(Q:Exit->St->Prop):Exit->St->Prop
 | .exit i,S=>if i=id then Q .normal S else Q (.exit i) S
 | .normal,S=>Q .normal S
 | .goto l,S=>Q (.goto l) S
 | .ret,S=>Q .ret S
 | .panic c,S=>Q (.panic c) S
 | .outgrown,S=>Q .outgrown S
def aiE{nt:Nat}{Q:Exit->St->Prop}(h:Q .normal S):V P nt .skip Q S:=λ_ _ _ _ _ L hr=>wpIn_skip ⟨S,L,hr,h⟩
def aiF{nt id:Nat}{Q:Exit->St->Prop}(h:Q (.exit id) S):V P nt (.exit id) Q S:=λ_ _ _ _ _ L hr=>wpIn_exit ⟨S,L,hr,h⟩
def ajN{nt:Nat}{Q:Exit->St->Prop}(h:Q .ret S):V P nt .ret Q S:=λ_ _ _ _ _ L hr=>wpIn_ret ⟨S,L,hr,h⟩
def ajM{nt:Nat}{x y:Code}{Q:Exit->St->Prop}(h:V P nt x (RP (V P nt y Q) Q) S):V P nt (.seq x y) Q S:=λE hE hk a w L hr=>
 wpIn_seq (wpIn_mono (h E hE hk.akv a w L hr) λe a' w' ⟨S',L',h1,h2⟩=>by
  cases e with
  |normal=>exact h2 E hE hk.aku a' w' L' h1
  |exit i|goto l|ret|panic c=>exact⟨S',L',h1,h2⟩
  |outgrown=>exact⟨S',L',h1,h2⟩)
def aiG{nt:Nat}{c:Operand}{c':bB}{x y:Code}{b:Bool}{Q:Exit->St->Prop}(hc:bH c=some c')(hb:c'.val S= .bool b)(h:V P nt (if b then x else y) Q S):V P nt (.cond c x y) Q S:=λE hE hk a w L hr=>by
 have:=hr.jL hc;rw[hb]at this
 exact wpIn_cond this.oJ (h E hE (by
  cases b
  ·exact hk.afb
  ·exact hk.afc) a w L hr)
def ag4{nt id:Nat}{c:Code}{Q:Exit->St->Prop}(h:V P nt c (Ha id Q) S):V P nt (.block id c) Q S:=λE hE hk a w L hr=>
 wpIn_block (wpIn_mono (h E hE hk a w L hr) λe a' w' ⟨S',L',h1,h2⟩=>by
  cases e with
  |exit i=>
   simp only[Ha]at h2;simp only[Exit.inBlock];split
   ·rename_i hi;rw[Qr hi]at h2;exact⟨S',L',h1,h2⟩
   ·rename_i hi;rw[Qs hi]at h2;exact⟨S',L',h1,h2⟩
  |normal|goto l|ret|panic c=>exact⟨S',L',h1,h2⟩
  |outgrown=>exact⟨S',L',h1,h2⟩)
def yi{α β:Type}{f:α->Option β}:∀{l:List α} {r:List β},l.mapM f=some r->r.length=l.length
 |[],r,h=>by simp at h;subst h;rfl
 |x::l,r,h=>by simp only[Qq75,Qd,Qc,Option.pure_def,Qf]at h;obtain⟨y,_,ys,hys,rfl⟩:=h;simp[yi hys]
def PV.oU(n:Nat):PV->Bool
 | .own id _| .ptr id _ _| .fh id _ _ _ _| .view id _ _ _ _=>decide (id<n)
 | .agg _| .eN _| .bI _ _| .jz _ _=>false
 |_=>true
def PV.under(n:Nat):PV->Bool
 | .agg cs| .eN cs| .bI _ cs| .jz _ cs=>cs.all (PV.oU n)
 |x=>x.oU n
def xW.under(n:Nat):xW->Bool
 | .dead=>true
 | .box cs=>cs.all (PV.under n)
 | .row _ _ es=>es.all λe=>e.all (PV.under n)
def bp.oU{M M':Nat->Prop}{G G':Gh}{x:PV}{v:Value}(hx:x.oU G'.N=true)(hM:∀b,M' b->M b)(hL:G'.L=G.L)(hV:∀id,id<G'.N->G'.V id=G.V id)(h:bp w M G x v):bp w M' G' x v:=by
 have hs:cZ w w M M':=(cZ.of λ_ hm=>λh'=>hm (hM _ h'))
 cases h with
 |any=>exact .any _
 |undef=>exact .undef
 |int=>exact .int _ _
 |bool=>exact .bool _
 |gL=>first|exact .gL _|simp[PV.closed]at hc
 |str=>exact .str _
 |lL=>exact .lL
 |eG=>exact .eG
 |bI|jz|agg|eN=>simp[PV.oU]at hx
 |ptr id av off a hN hVe h=>simp only[PV.oU,Qi]at hx;exact .ptr _ _ _ _ hx (by rw[hV id hx];exact hVe) (λe=>by rw[hL];exact h (by rw[e,hV id hx]))
 |ref cs ad vs hl hcell h=>exact .ref cs ad vs hl (λi u hu=>⟨(hcell i u hu).1,λh'=>(hcell i u hu).2 (hM _ h')⟩) (λi p u hp hu=>(h i p u hp hu).mono hs (Gh.le.refl _))
 |sl es ad c k vs hk hl hcell h hn hm=>exact .sl es ad c k vs hk hl (λi u hu=>⟨(hcell i u hu).1,λh'=>(hcell i u hu).2 (hM _ h')⟩) (λi p u hp hu=>(h i p u hp hu).mono hs (Gh.le.refl _)) hn hm
 |slnil=>exact .slnil
 |own id av a n c hN hVe h=>simp only[PV.oU,Qi]at hx;exact .own _ _ _ _ _ hx (by rw[hV id hx];exact hVe) (λe=>by rw[hL];exact h (by rw[e,hV id hx]))
 |fh id av k i off a hN hVe h=>simp only[PV.oU,Qi]at hx;exact .fh _ _ _ _ _ _ hx (by rw[hV id hx];exact hVe) (λe=>by rw[hL];exact h (by rw[e,hV id hx]))
 |view id av k lo n a c hN hVe h=>simp only[PV.oU,Qi]at hx;exact .view _ _ _ _ _ _ _ hx (by rw[hV id hx];exact hVe) (λe=>by rw[hL];exact h (by rw[e,hV id hx]))
 |jQ ks us b es ck hb hMb hk hv h1 h2=>exact .jQ ks us b es ck hb (λh'=>hMb (hM _ h')) hk hv (λi p e hp he=>(h1 i p e hp he).mono hs (Gh.le.refl _)) (λi p e hp he=>(h2 i p e hp he).mono hs (Gh.le.refl _))
def bp.under{M M':Nat->Prop}{G G':Gh}{x:PV}{v:Value}(hx:x.under G'.N=true)(hM:∀b,M' b->M b)(hL:G'.L=G.L)(hV:∀id,id<G'.N->G'.V id=G.V id)(h:bp w M G x v):bp w M' G' x v:=by
 have go:∀{cs:List PV} {vs:List Value},cs.all (PV.oU G'.N)=true->bo w M G cs vs->bo w M' G' cs vs:=λhc h=>⟨h.1,λi y v hy hv=>(h.2 i y v hy hv).oU (QH.1 hc y (Q8 hy)) hM hL hV⟩
 cases x with
 |agg cs=>obtain⟨vs,rfl,hr⟩:=h.tu;have:=go (by simpa[PV.under]using hx) hr;exact .agg _ _ this.1 this.2
 |eN cs=>obtain⟨vs,rfl,hr⟩:=h.Gv;have:=go (by simpa[PV.under]using hx) hr;exact .eN _ _ this.1 this.2
 |bI f cs=>obtain⟨vs,rfl,hr⟩:=h.xk;have:=go (by simpa[PV.under]using hx) hr;exact .bI _ _ _ this.1 this.2
 |jz f cs=>obtain⟨vs,rfl,hr⟩:=h.SY;have:=go (by simpa[PV.under]using hx) hr;exact .jz _ _ _ this.1 this.2
 |_=>exact h.oU (by simpa[PV.under]using hx) hM hL hV
def St.cut(S:St)(ts:List Nat)(n:Nat):St:=
 {env:=λt=>if t∈ts then S.env t else .any,H:=λid=>if id<n then S.H id else⟨0,.dead⟩,N:=n}
structure aaQ (S:St) (ts:List Nat) (n:Nat):Prop where
 N:n<=S.N
 env:∀t∈ts,(S.env t).under n=true
 H:∀id,id<n->(S.H id).c.under n=true
def Rel.cut(h:Rel E S a w L){ts:List Nat}{n:Nat}(hc:aaQ S ts n):Rel E (S.cut ts n) a w L:=by
 have hM:∀b,bl E (S.cut ts n) L b->bl E S L b:=by
  rintro b (⟨id,hid,hl,hb⟩|hb)
  ·simp only[St.cut]at hid hl;rw[Qr hid]at hl;exact .inl ⟨id,QJ hid hc.N,hl,hb⟩
  ·exact .inr hb
 have hV:∀id,id<((S.cut ts n).gh L).N->((S.cut ts n).gh L).V id=(S.gh L).V id:=λid hid=>by simp only[St.gh,St.cut]at hid ⊢;rw[Qr hid]
 have go:∀{cs:List PV} {vs:List Value},(∀y∈cs,y.under n=true)->bo w (bl E S L) (S.gh L) cs vs->bo w (bl E (S.cut ts n) L) ((S.cut ts n).gh L) cs vs:=λhc h=>⟨h.1,λi y v hy hv=>bp.under (G:=S.gh L) (G':=(S.cut ts n).gh L) (hc y (Q8 hy)) hM rfl hV (h.2 i y v hy hv)⟩
 refine⟨h.defers,h.size,λt=> ?_,λid hid=> ?_,λi j b hi hj hli hlj hbi hbj=> ?_,λid hid=> ?_,h.fr,λhb hlv hvr=> ?_,h.an.1.trans (.of λb hn hm=>hn (hM b hm)),λid b hid hl hb hr=> ?_,λb hH=>⟨(h.an.2.2 b hH).1,(h.an.2.2 b hH).2.1,λid hid hl=> ?_⟩⟩
 rotate_left 5
 ·simp only[St.cut]at hid hl;rw[Qr hid]at hl;exact h.an.2.1 id b (QJ hid hc.N) hl hb hr
 ·simp only[St.cut]at hid hl;rw[Qr hid]at hl;exact(h.an.2.2 b hH).2.2 id (QJ hid hc.N) hl
 ·by_cases ht:t∈ts
  ·have e:(S.cut ts n).env t=S.env t:=by simp[St.cut,ht]
   rw[e];exact bp.under (G:=S.gh L) (G':=(S.cut ts n).gh L) (hc.env t ht) hM rfl hV (h.env t)
  ·have e:(S.cut ts n).env t= .any:=by simp[St.cut,ht]
   rw[e];exact .any _
 ·simp only[St.cut]at hid;have hc':((S.cut ts n).H id).c=(S.H id).c:=by simp[St.cut,hid]
  rw[hc'];have ho:=h.obj id (QJ hid hc.N);have hb:=hc.H id hid
  cases hcc:(S.H id).c with
  |dead=>trivial
  |box cs=>rw[hcc]at ho hb;obtain⟨b,cur,T,h1,h2,h3,h4⟩:=ho;exact⟨b,cur,T,h1,h2,h3,go (λy hy=>QH.1 hb y hy) h4⟩
  |row e k es=>
   rw[hcc]at ho hb;obtain⟨vs,h1,h2,h3⟩:=ho;refine⟨vs,h1,h2,go (λy hy=> ?_) h3⟩
   obtain⟨l,hl,hyl⟩:=List.mem_flatten.1 hy;exact QH.1 (QH.1 hb l hl) y hyl
 ·simp only[St.cut]at hi hj hli hlj;rw[Qr hi]at hli;rw[Qr hj]at hlj;exact h.apart i j b (QJ hi hc.N) (QJ hj hc.N) hli hlj hbi hbj
 ·simp only[St.cut]at hid ⊢;rw[Qs (by omega)]
 ·simp only[St.cut]at hlv hvr
  by_cases hn0:0<n
  ·rw[Qr hn0]at hlv hvr;exact h.Bb hb hlv hvr
  ·rw[Qs hn0]at hlv;cases hlv
def ajs(ts:List Nat)(n:Nat)(I:Nat->St->Prop)(m:Nat)(Q:Exit->St->Prop):Exit->St->Prop
 | .normal,S=>aaQ S ts n/\∃m',m'<m/\I m' (S.cut ts n)
 | .exit i,S=>Q (.exit i) S
 | .goto l,S=>Q (.goto l) S
 | .ret,S=>Q .ret S
 | .panic c,S=>Q (.panic c) S
 | .outgrown,S=>Q .outgrown S
end
end
section
open Go.RowKit
def bB.cU:bB->List Nat
 | .tmp t=>[t]
 | .zH _=>[]
def cu.cU:cu->List Nat
 | .qj x| .box x| .Gn x| .load _ x| .Cb _ x| .not x| .conv _ x| .len _ x| .B4 x| .Gj _ x| .As _ x
 | .clear _ _ x
 | .MP _ _ x=>x.cU
 | .pick c x y=>c.cU++x.cU++y.cU
 | .alloc _=>[]
 | .store _ p x=>p.cU++x.cU
 | .build _ ps=>ps.flatMap λp=>p.2.2.cU
 | .Rl _ _ _ _ ps=>ps.flatMap λp=>p.2.cU
 | .uo _ x i=>x.cU++i.cU
 | .bin _ x y| .mu _ x y| .G4 _ _ x y| .KB _ x y| .we _ x y| .Gr _ _ _ _ x y
 =>x.cU++y.cU
 | .call _ xs=>xs.flatMap bB.cU
 | .uw f xs=>f.cU++xs.flatMap bB.cU
 | .cz _ _ _ _ s x=>s.cU++x.cU
 | .MH _ caps| .MI _ caps=>caps.flatMap bB.cU
 | .Pb _ _ _ _ l c=>l.cU++c.cU
 | .Jw _ x lo hi=>x.cU++(match lo with|some l=>l.cU|none=>[])++(match hi with|some h=>h.cU|none=>[])
def SG.cU(g:SG):List Nat:=(match g.g with|some (t,_)=>[t]|none=>[])++g.op.cU
def cu.s7:cu->Bool
 | .qj _| .Gn _| .pick ..| .bin ..| .mu ..| .G4 ..| .KB ..| .not _| .conv ..| .Gj ..| .MH ..| .MI ..| .build ..| .we ..| .Gr ..
 | .MP ..| .len true _=>false
 |_=>true
def zd:PV->List Nat
 | .own id _| .ptr id _ _| .fh id _ _ _ _| .view id _ _ _ _=>[id]
 |_=>[]
def gR(H:Nat->gm):Nat->PV->List Nat
 |0,_=>[]
 |n+1,.own id _=>id::(match(H id).c with| .row _ _ es=>es.flatMap (λe=>e.flatMap (gR H n))|_=>[])
 |n+1,.ptr id _ _=>id::(match(H id).c with| .box cs=>cs.flatMap (gR H n)|_=>[])
 |n+1,.agg cs|n+1,.eN cs|n+1,.bI _ cs|n+1,.jz _ cs=>cs.flatMap (gR H n)
 |_+1,_=>[]
def iv(nid:Nat)(S:St):cu->List Nat
 | .load _ p| .Cb _ p| .B4 p| .store _ p _=>zd (p.val S)
 | .uo _ x _| .len false x| .As _ x| .Jw _ x _ _
 | .clear _ _ x
 =>zd (x.val S)
 | .box _| .alloc _| .Rl ..| .Pb ..=>[nid]
 | .cz _ _ _ _ s x=>nid::(zd (s.val S)++zd (x.val S))
 | .call _ xs=>nid::(xs.map (·.val S)).flatMap (gR S.H 9)
 | .uw f xs=>nid::(gR S.H 10 (f.val S)++(xs.map (·.val S)).flatMap (gR S.H 9))
 |_=>[]
section
variable {Γ : qv} {S S' : St} {nid : Nat}
def bB.val_congr{x:bB}(h:∀t∈x.cU,S'.env t=S.env t):x.val S'=x.val S:=by
 cases x with
 |tmp t=>exact h t (by simp[bB.cU])
 |zH v=>rfl
def zS{xs:List bB}(h:∀t∈xs.flatMap bB.cU,S'.env t=S.env t):xs.map (·.val S')=xs.map (·.val S):=
 Qq71 λx hx=>bB.val_congr λt ht=>h t (QQ.2 ⟨x,hx,ht⟩)
def Wz{H H':Nat->gm}{ex:Option Nat}:∀(n:Nat) (x:PV),(∀id∈gR H n x,H' id=H id)->fz H' ex n x=fz H ex n x
 |0,x,_=>by cases x<;>simp[fz]
 |n+1,x,h=>by
  have go:∀cs:List PV,(∀id∈cs.flatMap (gR H n),H' id=H id)->cs.map (fz H' ex n)=cs.map (fz H ex n):=λcs hc=>Qq71 λy hy=>Wz n y λid hid=>hc id (QQ.2 ⟨y,hy,hid⟩)
  cases x with
  |own id av=>
   have h0:H' id=H id:=h id (by simp[gR])
   simp only[fz,h0];split
   ·rfl
   ·cases hc:(H id).c with
    |row e k es=>
     simp only;congr 1;refine Qq71 λy hy=>go y λi hi=>h i ?_
     simp only[gR,hc,QA];exact .inr (QQ.2 ⟨y,hy,hi⟩)
    |dead|box cs=>rfl
  |ptr id av off=>
   have h0:H' id=H id:=h id (by simp[gR])
   simp only[fz,h0];split
   ·rfl
   ·cases hc:(H id).c with
    |box cs=>simp only;rw[go cs λi hi=>h i (by simp only[gR,hc,QA];exact .inr hi)]
    |dead|row e k es=>rfl
  |agg cs|eN cs|bI f cs=>simp only[fz];rw[go cs (by simpa[gR]using h)]
  |_=>simp[fz]
def FD{H H':Nat->gm}{ex:Option Nat}{xs:List PV}(h:∀id∈xs.flatMap (gR H 9),H' id=H id):xs.map (fz H' ex 9)=xs.map (fz H ex 9):=
 Qq71 λy hy=>Wz 9 y λid hid=>h id (QQ.2 ⟨y,hy,hid⟩)
def EO{f:FuncId}{args:List PV}(hnid:S'.H nid=S.H nid)(h:∀id∈args.flatMap (gR S.H 9),S'.H id=S.H id):nJ Γ nid S' f args=nJ Γ nid S f args:=by
 have bor:∀(m:Model) (e k:Nat),BQ m e k S' args=BQ m e k S args:=by
  intro m e k;unfold BQ
  cases args with
  |nil=>rfl
  |cons x rest=>
   cases x with
   |own id av=>
    have h0:S'.H id=S.H id:=h id (by simp[gR])
    have h1:rest.map (fz S'.H (some id) 9)=rest.map (fz S.H (some id) 9):=FD λi hi=>h i (by simp only[List.flatMap_cons,Qz];exact .inr hi)
    simp only[h0,h1]
   |_=>rfl
 have Ri:∀(m:Model) (e k:Nat),BP m e k S' args=BP m e k S args:=by
  intro m e k;unfold BP
  cases args with
  |nil=>rfl
  |cons x rest=>
   cases x with
   |own id av=>
    have h0:S'.H id=S.H id:=h id (by simp[gR])
    have h1:rest.map (fz S'.H (some id) 9)=rest.map (fz S.H (some id) 9):=FD λi hi=>h i (by simp only[List.flatMap_cons,Qz];exact .inr hi)
    simp only[h0,h1]
   |_=>rfl
 unfold nJ
 cases hm:Γ f with
 |none=>rfl
 |some m=>
  simp only[bor,Ri,G9,hnid,FD (ex:=none) h];split
  ·rfl
  ·rfl
  ·rfl
  split
  ·rfl
  split
  ·cases hp:args[m.pos]? with
   |none=>rfl
   |some x=>
    cases x with
    |ptr id av off=>
     cases off with
     |zero=>
      have hmem:PV.ptr id av 0∈args:=Q8 hp;have h0:S'.H id=S.H id:=h id (QQ.2 ⟨_,hmem,by simp[gR]⟩)
      have h1:(cutAt m.pos args).map (fz S'.H (some id) 9)=(cutAt m.pos args).map (fz S.H (some id) 9):=FD λi hi=>by
       obtain⟨y,hy,hiy⟩:=QQ.1 hi;refine h i (QQ.2 ⟨y,?_,hiy⟩);unfold cutAt at hy;rcases Qz.1 hy with hy|hy
       ·exact Q1 hy
       ·exact Q2 hy
      simp only[h0,h1]
     |succ k=>rfl
    |_=>rfl
  ·rfl
def Kx:∀(ps:List (Nat×Nat×bB)) (cs:List PV),(∀t∈ps.flatMap (λp=>p.2.2.cU),S'.env t=S.env t)->tq S' cs ps=tq S cs ps
 |[],cs,_=>rfl
 |(off,n,x)::ps,cs,h=>by
  have h0:x.val S'=x.val S:=bB.val_congr λt ht=>h t (by simp[ht])
  simp only[tq,h0];split
  ·exact Kx ps _ λt ht=>h t (by simp only[List.flatMap_cons,Qz];exact .inr ht)
  ·rfl
def Ky(k:Nat):∀(ps:List (Nat×bB)) (es:List (List PV)),(∀t∈ps.flatMap (λp=>p.2.cU),S'.env t=S.env t)->wA S' k es ps=wA S k es ps
 |[],es,_=>rfl
 |(i,x)::ps,es,h=>by
  have h0:x.val S'=x.val S:=bB.val_congr λt ht=>h t (by simp[ht])
  simp only[wA,h0];split
  ·exact Ky k ps _ λt ht=>h t (by simp only[List.flatMap_cons,Qz];exact .inr ht)
  ·rfl
def Gm{x:PV}(h:∀id∈zd x,S'.H id=S.H id):kR S' x=kR S x:=by
 cases x with
 |own id av|view id av k lo n=>have h0:S'.H id=S.H id:=h id (by simp[zd]);simp only[kR,h0]
 |_=>rfl
def OY{y:Option bB}{d:Int}(h:∀l,y=some l->l.val S'=l.val S):vg S' y d=vg S y d:=by
 cases y with
 |none=>rfl
 |some l=>simp only[vg,h l rfl]
def aah{op:cu}(he:∀t∈op.cU,S'.env t=S.env t)(hH:∀id∈iv nid S op,S'.H id=S.H id):exec Γ nid S' op=exec Γ nid S op:=by
 cases op with
 |qj x|not x|conv k x|MP n off x|Gj i x=>simp only[exec,bB.val_congr (x:=x) he]
 |pick c x y=>
  have h1:c.val S'=c.val S:=bB.val_congr λt ht=>he t (by simp[cu.cU,ht])
  have h2:x.val S'=x.val S:=bB.val_congr λt ht=>he t (by simp[cu.cU,ht])
  have h3:y.val S'=y.val S:=bB.val_congr λt ht=>he t (by simp[cu.cU,ht])
  simp only[exec,h1,h2,h3]
 |box x=>
  have h1:x.val S'=x.val S:=bB.val_congr he;have h2:S'.H nid=S.H nid:=hH nid (by simp[iv])
  simp only[exec,h1,h2]
 |Gn x=>have h1:x.val S'=x.val S:=bB.val_congr he;simp only[exec,h1]
 |alloc z=>
  have h2:S'.H nid=S.H nid:=hH nid (by simp[iv])
  simp only[exec,h2]
 |load n p=>
  have h1:p.val S'=p.val S:=bB.val_congr he;simp only[exec,h1];simp only[iv]at hH
  cases hp:p.val S with
  |ptr id av off|fh id av k i off=>rw[hp]at hH;have h2:S'.H id=S.H id:=hH id (by simp[zd]);simp only[h2]
  |_=>rfl
 |store n p x=>
  have h1:p.val S'=p.val S:=bB.val_congr λt ht=>he t (by simp[cu.cU,ht])
  have h2:x.val S'=x.val S:=bB.val_congr λt ht=>he t (by simp[cu.cU,ht])
  simp only[exec,h1,h2];simp only[iv]at hH
  cases hp:p.val S with
  |ptr id av off|fh id av k i off=>rw[hp]at hH;have h3:S'.H id=S.H id:=hH id (by simp[zd]);simp only[h3]
  |_=>rfl
 |build z ps=>simp only[exec,Kx ps z he]
 |Rl m e k z ps=>
  have h2:S'.H nid=S.H nid:=hH nid (by simp[iv])
  simp only[exec,Ky k ps z he,h2]
 |Cb off p=>
  have h1:p.val S'=p.val S:=bB.val_congr he;simp only[exec,h1];simp only[iv]at hH
  cases hp:p.val S with
  |ptr id av off|fh id av k i off=>rw[hp]at hH;have h2:S'.H id=S.H id:=hH id (by simp[zd]);simp only[h2]
  |_=>rfl
 |uo k x i=>
  have h1:x.val S'=x.val S:=bB.val_congr λt ht=>he t (by simp[cu.cU,ht])
  have h2:i.val S'=i.val S:=bB.val_congr λt ht=>he t (by simp[cu.cU,ht])
  simp only[exec,h1,h2];simp only[iv]at hH
  cases hp:x.val S with
  |own id av|view id av k lo n=>rw[hp]at hH;have h3:S'.H id=S.H id:=hH id (by simp[zd]);simp only[h3]
  |_=>rfl
 |bin op x y|mu n x y|KB n x y|G4 n ks x y|Gr e n len k x y|we m x y=>
  have h1:x.val S'=x.val S:=bB.val_congr λt ht=>he t (by simp[cu.cU,ht])
  have h2:y.val S'=y.val S:=bB.val_congr λt ht=>he t (by simp[cu.cU,ht])
  simp only[exec,h1,h2]
 |len b x=>
  have h1:x.val S'=x.val S:=bB.val_congr he
  cases b with
  |true=>simp only[exec,h1]
  |false=>simp only[exec,h1];rw[Gm (by simpa[iv]using hH)]
 |call f xs=>simp only[exec,zS he];exact EO (hH nid (by simp[iv])) λid hid=>hH id (by simp only[iv,QA];exact .inr hid)
 |uw fv xs=>
  have h1:fv.val S'=fv.val S:=bB.val_congr λt ht=>he t (by simp[cu.cU,ht])
  have h2:xs.map (·.val S')=xs.map (·.val S):=zS λt ht=>he t (by simp only[cu.cU,Qz];exact .inr ht)
  simp only[exec,h1,h2];simp only[iv]at hH
  cases hp:fv.val S with
  |bI f caps=>
   rw[hp]at hH;refine EO (hH nid (by simp)) λid hid=>hH id ?_
   simp only[List.flatMap_append,Qz,QA]at hid ⊢;right;rcases hid with hid|hid
   ·exact .inr hid
   ·exact .inl (by simpa[gR]using hid)
  |jz f first=>
   rw[hp]at hH;refine EO (hH nid (by simp)) λid hid=>hH id ?_
   simp only[List.flatMap_append,Qz,QA]at hid ⊢;right;rcases hid with hid|hid
   ·exact .inl (by simpa[gR]using hid)
   ·exact .inr hid
  |_=>rfl
 |cz z e k b s x=>
  have h1:s.val S'=s.val S:=bB.val_congr λt ht=>he t (by simp[cu.cU,ht])
  have h2:x.val S'=x.val S:=bB.val_congr λt ht=>he t (by simp[cu.cU,ht])
  have h3:S'.H nid=S.H nid:=hH nid (by simp[iv])
  have h4:kR S' (x.val S)=kR S (x.val S):=Gm λid hid=>hH id (by simp[iv,hid])
  simp only[exec,h1,h2,h3,h4]
  cases hp:s.val S with
  |own id av=>have h5:S'.H id=S.H id:=hH id (by simp[iv,hp,zd]);simp only[h5]
  |_=>rfl
 |B4 x=>
  have h1:x.val S'=x.val S:=bB.val_congr he;simp only[exec,h1];simp only[iv]at hH
  cases hp:x.val S with
  |ptr id av off=>rw[hp]at hH;have h2:S'.H id=S.H id:=hH id (by simp[zd]);simp only[h2]
  |_=>rfl
 |MH f caps|MI f caps=>simp only[exec,zS he]
 |Pb e k b z l c=>
  have h1:l.val S'=l.val S:=bB.val_congr λt ht=>he t (by simp[cu.cU,ht])
  have h2:c.val S'=c.val S:=bB.val_congr λt ht=>he t (by simp[cu.cU,ht])
  have h3:S'.H nid=S.H nid:=hH nid (by simp[iv])
  simp only[exec,h1,h2,h3]
 |Jw k x lo hi=>
  have h1:x.val S'=x.val S:=bB.val_congr λt ht=>he t (by simp[cu.cU,ht])
  have h2:∀l,lo=some l->l.val S'=l.val S:=λl hl=>bB.val_congr λt ht=>he t (by simp[cu.cU,hl,ht])
  have h3:∀l,hi=some l->l.val S'=l.val S:=λl hl=>bB.val_congr λt ht=>he t (by simp[cu.cU,hl,ht])
  simp only[iv]at hH;simp only[exec,h1];have h4:∀d,vg S' lo d=vg S lo d:=λd=>OY h2
  have h5:∀d,vg S' hi d=vg S hi d:=λd=>OY h3
  cases hp:x.val S with
  |own id av|view id av k lo n=>rw[hp]at hH;have h6:S'.H id=S.H id:=hH id (by simp[zd]);simp only[h4,h5,h6]
  |sl es=>cases lo<;>cases hi<;>simp_all
  |_=>rfl
 |clear k z x=>
  have h1:x.val S'=x.val S:=bB.val_congr he;simp only[iv]at hH;simp only[exec,h1]
  cases hp:x.val S with
  |view id av k lo n=>rw[hp]at hH;have h6:S'.H id=S.H id:=hH id (by simp[zd]);simp only[h6]
  |_=>rfl
 |As n x=>
  have h1:x.val S'=x.val S:=bB.val_congr he;have h2:kR S' (x.val S)=kR S (x.val S):=Gm (by simpa[iv]using hH)
  simp only[exec,h1];cases hx:x.val S<;>first|rfl|(rw[hx]at h2;simp only[h2])
def xh{α β:Type}{f g:α->List β}:∀{l:List α},(∀x∈l,f x=g x)->l.flatMap f=l.flatMap g
 |[],_=>rfl
 |x::l,h=>by simp only[List.flatMap_cons];rw[h x (by simp),xh λy hy=>h y (by simp[hy])]
def HH{H H':Nat->gm}:∀(n:Nat) (x:PV),(∀id∈gR H n x,H' id=H id)->gR H' n x=gR H n x
 |0,x,_=>by simp[gR]
 |n+1,x,h=>by
  have go:∀cs:List PV,(∀id∈cs.flatMap (gR H n),H' id=H id)->cs.flatMap (gR H' n)=cs.flatMap (gR H n):=λcs hc=>xh λy hy=>HH n y λid hid=>hc id (QQ.2 ⟨y,hy,hid⟩)
  cases x with
  |own id av=>
   have h0:H' id=H id:=h id (by simp[gR])
   simp only[gR,h0]
   cases hc:(H id).c with
   |row e k es=>
    simp only;congr 1;refine xh λy hy=>go y λi hi=>h i ?_
    simp only[gR,hc,QA];exact .inr (QQ.2 ⟨y,hy,hi⟩)
   |dead|box cs=>rfl
  |ptr id av off=>
   have h0:H' id=H id:=h id (by simp[gR])
   simp only[gR,h0]
   cases hc:(H id).c with
   |box cs=>simp only;rw[go cs λi hi=>h i (by simp only[gR,hc,QA];exact .inr hi)]
   |dead|row e k es=>rfl
  |agg cs|eN cs|bI f cs|jz f cs=>simp only[gR];exact go cs (by simpa[gR]using h)
  |_=>simp[gR]
def MB{H H':Nat->gm}{n:Nat}{xs:List PV}(h:∀id∈xs.flatMap (gR H n),H' id=H id):xs.flatMap (gR H' n)=xs.flatMap (gR H n):=
 xh λy hy=>HH n y λid hid=>h id (QQ.2 ⟨y,hy,hid⟩)
def Zz{op:cu}(he:∀t∈op.cU,S'.env t=S.env t)(hH:∀id∈iv nid S op,S'.H id=S.H id):iv nid S' op=iv nid S op:=by
 cases op with
 |load n p|Cb off p|B4 p=>simp only[iv,bB.val_congr (x:=p) he]
 |store n p x=>
  have h1:p.val S'=p.val S:=bB.val_congr λt ht=>he t (by simp[cu.cU,ht])
  simp only[iv,h1]
 |uo k x i|Jw k x lo hi=>
  have h1:x.val S'=x.val S:=bB.val_congr λt ht=>he t (by simp[cu.cU,ht])
  simp only[iv,h1]
 |As n x|clear k z x=>simp only[iv,bB.val_congr (x:=x) he]
 |len b x=>
  cases b with
  |true=>rfl
  |false=>simp only[iv,bB.val_congr (x:=x) he]
 |cz z e k b s x=>
  have h1:s.val S'=s.val S:=bB.val_congr λt ht=>he t (by simp[cu.cU,ht])
  have h2:x.val S'=x.val S:=bB.val_congr λt ht=>he t (by simp[cu.cU,ht])
  simp only[iv,h1,h2]
 |call f xs=>simp only[iv,zS he];rw[MB λid hid=>hH id (by simp only[iv,QA];exact .inr hid)]
 |uw fv xs=>
  have h1:fv.val S'=fv.val S:=bB.val_congr λt ht=>he t (by simp[cu.cU,ht])
  have h2:xs.map (·.val S')=xs.map (·.val S):=zS λt ht=>he t (by simp only[cu.cU,Qz];exact .inr ht)
  simp only[iv,QA,Qz]at hH;simp only[iv,h1,h2];rw[HH 10 _ λid hid=>hH id (.inr (.inl hid)),MB λid hid=>hH id (.inr (.inr hid))]
 |_=>rfl
def CI(Γ:qv)(nid:Nat)(S:St)(g:SG):Option (PV×Option (Nat×gm)):=
 match g.wanted S with
 |some true=>exec Γ nid S g.op
 |some false=>some (.undef,none)
 |none=>none
def G3(nid:Nat)(S:St)(g:SG):List Nat:=
 match g.wanted S with
 |some true=>iv nid S g.op
 |_=>[]
def Yi(g:SG):ya Γ nid S g=(CI Γ nid S g).map λp=>S.cz g.d p.1 p.2:=by
 unfold ya CI
 cases g.wanted S with
 |none=>rfl
 |some b=>cases b<;>rfl
def Jp{g:SG}(he:∀t∈g.cU,S'.env t=S.env t):g.wanted S'=g.wanted S:=by
 unfold SG.wanted
 cases hg:g.g with
 |none=>rfl
 |some p=>obtain⟨t,want⟩:=p;simp only;rw[he t (by simp[SG.cU,hg])]
def T8{g:SG}(he:∀t∈g.cU,S'.env t=S.env t)(hH:∀id∈G3 nid S g,S'.H id=S.H id):CI Γ nid S' g=CI Γ nid S g:=by
 unfold CI;rw[Jp he];unfold G3 at hH
 cases hw:g.wanted S with
 |none=>rfl
 |some b=>
  cases b with
  |false=>rfl
  |true=>rw[hw]at hH;exact aah (λt ht=>he t (by simp[SG.cU,ht])) hH
def T0{g:SG}(he:∀t∈g.cU,S'.env t=S.env t)(hH:∀id∈G3 nid S g,S'.H id=S.H id):G3 nid S' g=G3 nid S g:=by
 unfold G3;rw[Jp he];unfold G3 at hH
 cases hw:g.wanted S with
 |none=>rfl
 |some b=>
  cases b with
  |false=>rfl
  |true=>rw[hw]at hH;exact Zz (λt ht=>he t (by simp[SG.cU,ht])) hH
structure xP where
 d:Option Nat
 us:List Nat
 rd:List Nat
 wr:Option Nat
structure aaO (p q:xP):Prop where
 d1:∀t,p.d=some t->t∉q.us
 d2:∀t,q.d=some t->t∉p.us
 dd:∀t,p.d=some t->q.d≠some t
 w1:∀i,p.wr=some i->i∉q.rd
 w2:∀i,q.wr=some i->i∉p.rd
 ww:∀i,p.wr=some i->q.wr≠some i
def Gf(nid:Nat)(S:St)(g:SG)(p:PV×Option (Nat×gm)):xP:=⟨g.d,g.cU,G3 nid S g,p.2.map (·.1)⟩
def qd(Γs:Nat->qv)(base:Nat):List (Nat×SG)->St->Option (St×List xP)
 |[],S=>some (S,[])
 |(i,g)::l,S=>
  match CI (Γs i) (base+i) S g with
  |none=>none
  |some p=>
   match qd Γs base l (S.cz g.d p.1 p.2)with
   |none=>none
   |some (S',fs)=>some (S',Gf (base+i) S g p::fs)
def St.lV(d:Option Nat)(x:PV)(wr:Option (Nat×gm)){t:Nat}(h:d≠some t):(S.cz d x wr).env t=S.env t:=by
 cases d with
 |none=>rfl
 |some d=>exact c7 _ _ (λe=>h (by rw[e]))
def St.ID(d:Option Nat)(x:PV)(wr:Option (Nat×gm)){i:Nat}(h:wr.map (·.1)≠some i):(S.cz d x wr).H i=S.H i:=by
 cases wr with
 |none=>rfl
 |some p=>exact c7 _ _ (λe=>h (by rw[e];rfl))
def U7{α:Type}(f:Nat->α){i j:Nat}(x y:α)(h:i≠j):bU (bU f i x) j y=bU (bU f j y) i x:=by
 funext k
 simp only[bU];split<;>split<;>first|rfl|omega
def St.aek(d e:Option Nat)(x y:PV)(p q:Option (Nat×gm))(hd:∀t,d=some t->e≠some t)(hw:∀i,p.map (·.1)=some i->q.map (·.1)≠some i):(S.cz d x p).cz e y q=(S.cz e y q).cz d x p:=by
 unfold St.cz;congr 1
 ·cases d with
  |none=>rfl
  |some d=>
   cases e with
   |none=>rfl
   |some e=>exact U7 _ _ _ (λh=>hd d rfl (by rw[h]))
 ·cases p with
  |none=>rfl
  |some p=>
   cases q with
   |none=>rfl
   |some q=>exact U7 _ _ _ (λh=>hw p.1 rfl (by rw[h];rfl))
def JH{Γs:Nat->qv}{base:Nat}:∀(l1:List (Nat×SG)) (i:Nat) (g:SG) (l2:List (Nat×SG)) (S S':St) (fs:List xP),qd Γs base (l1++(i,g)::l2) S=some (S',fs)->
  (∀(k:Nat) (fk fi:xP),k<l1.length->fs[k]?=some fk->fs[l1.length]?=some fi->aaO fk fi)->
  ∃p,CI (Γs i) (base+i) S g=some p/\(∀fi,fs[l1.length]?=some fi->fi=Gf (base+i) S g p)/\qd Γs base (l1++l2) (S.cz g.d p.1 p.2)=some (S',fs.eraseIdx l1.length)
 |[],i,g,l2,S,S',fs,h,_=>by
  simp only[List.nil_append,qd]at h;split at h
  ·cases h
  ·rename_i p hp;split at h
   ·cases h
   ·rename_i S1 fs1 h1;injection h with h
    injection h with h2 h3
    subst h2 h3;exact⟨p,hp,λfi hfi=>by simp at hfi;exact hfi.symm,by simpa using h1⟩
 |(x,gx)::l1,i,g,l2,S,S',fs,h,hi=>by
  simp only[List.cons_append,qd]at h;split at h
  ·cases h
  ·rename_i px hpx;split at h
   ·cases h
   ·rename_i S1 fs1 h1;injection h with h
    injection h with h2 h3
    subst h2 h3;obtain⟨p,hp,hfp,hrest⟩:=JH l1 i g l2 (S.cz gx.d px.1 px.2) S1 fs1 h1 (λk fk fi hk hfk hfi=>hi (k+1) fk fi (by simp;omega) (by simpa using hfk) (by simpa using hfi))
    have hlen:l1.length<fs1.length:=by
     have:∀(l:List (Nat×SG)) (S:St) (S':St) (fs:List xP),qd Γs base l S=some (S',fs)->fs.length=l.length:=by
      intro l
      induction l with
      |nil=>intro S S' fs h;simp only[qd,Qf,Prod.mk.injEq]at h;rw[<-h.2];rfl
      |cons q l ih=>
       intro S S' fs h;obtain⟨j,gj⟩:=q;simp only[qd]at h;split at h
       ·cases h
       ·split at h
        ·cases h
        ·rename_i S2 fs2 h2;injection h with h
         injection h with h3 h4
         subst h4;simp[ih _ _ _ h2]
     rw[this _ _ _ _ h1];simp
    have hfi:=hfp _ (Qv hlen);have hind:=hi 0 (Gf (base+x) S gx px) _ (by simp) (by simp) (show(Gf (base+x) S gx px::fs1)[l1.length+1]?=some fs1[l1.length]by rw[List.getElem?_cons_succ];exact Qv hlen)
    rw[hfi]at hind;have he:∀t∈g.cU,S.env t=(S.cz gx.d px.1 px.2).env t:=λt ht=>(St.lV _ _ _ (λe=>hind.d1 t e ht)).symm
    have hH:∀id∈G3 (base+i) (S.cz gx.d px.1 px.2) g,S.H id=(S.cz gx.d px.1 px.2).H id:=λid hid=>(St.ID _ _ _ (λe=>hind.w1 id e hid)).symm
    have hp':CI (Γs i) (base+i) S g=some p:=(T8 he hH).trans hp;have hg':=T0 (nid:=base+i) he hH;have hex:∀t∈gx.cU,(S.cz g.d p.1 p.2).env t=S.env t:=λt ht=>St.lV _ _ _ (λe=>hind.d2 t e ht)
    have hHx:∀id∈G3 (base+x) S gx,(S.cz g.d p.1 p.2).H id=S.H id:=λid hid=>St.ID _ _ _ (λe=>hind.w2 id e hid)
    have hpx':CI (Γs x) (base+x) (S.cz g.d p.1 p.2) gx=some px:=(T8 hex hHx).trans hpx;have hgx':=T0 (nid:=base+x) hex hHx;have hcomm:(S.cz g.d p.1 p.2).cz gx.d px.1 px.2=(S.cz gx.d px.1 px.2).cz g.d p.1 p.2:=(St.aek _ _ _ _ _ _ hind.dd hind.ww).symm;refine⟨p,hp',λfi hf=> ?_,?_⟩
    ·have:fi=fs1[l1.length]:=by
      have h5:(Gf (base+x) S gx px::fs1)[l1.length+1]?=some fi:=by simpa using hf
      simp only[List.getElem?_cons_succ,Qv hlen,Qf]at h5;exact h5.symm
     rw[this,hfi];simp only[Gf,hg']
    ·simp only[List.cons_append,qd,hpx',hcomm,hrest,QE,List.eraseIdx_cons_succ];congr 2;simp only[Gf,hgx']
end
section
variable {P : Program} {E : En} {Γ : qv} {hs : List Nat}
def yF(o:Oper):Nat:=o.after.toList.foldl (λm e=>if Region.binds .any e then m|||(1<<<e.on)else m) 0
def acC(ds:List Nat)(M:Nat):Nat:=ds.zipIdx.foldl (λm p=>if M.testBit p.2 then m|||p.1 else m) M
def EV(ds:List Nat):Nat->Nat->Nat
 |0,M=>M
 |n+1,M=>EV ds n (acC ds M)
def XD(i j:Nat):(1<<<i).testBit j=decide (j=i):=by rw[Nat.one_shiftLeft,Nat.testBit_two_pow];exact decide_eq_decide.2 ⟨λh=>h.symm,λh=>h.symm⟩
def WM{o:Oper}{R:Nat->Prop}(h:∀e∈o.after,Region.binds .any e=true->R e.on):∀j,(yF o).testBit j=true->R j:=by
 have:∀(l:List Edge) (m:Nat),(∀e∈l,Region.binds .any e=true->R e.on)->(∀j,m.testBit j=true->R j)->∀j,(l.foldl (λm e=>if Region.binds .any e then m|||(1<<<e.on)else m) m).testBit j=true->R j:=by
  intro l
  induction l with
  |nil=>intro m _ hm j hj;exact hm j hj
  |cons e l ih=>
   intro m hl hm j hj;refine ih _ (λe' he'=>hl e' (by simp[he'])) ?_ j hj
   intro k hk;simp only at hk;split at hk
   ·rename_i hb;rw[Nat.testBit_or,Qn,XD,Qi]at hk;rcases hk with hk|hk
    ·exact hm k hk
    ·rw[hk];exact hl e (by simp) hb
   ·exact hm k hk
 exact this o.after.toList 0 (λe he=>h e (by simpa using he)) (λj hj=>by simp at hj)
def acB{ds:List Nat}{R:Nat->Prop}(hd:∀i d,ds[i]?=some d->R i->∀j,d.testBit j=true->R j){M:Nat}(hM:∀j,M.testBit j=true->R j):∀j,(acC ds M).testBit j=true->R j:=by
 have:∀(l:List (Nat×Nat)) (m:Nat),(∀p∈l,R p.2->∀j,p.1.testBit j=true->R j)->(∀j,m.testBit j=true->R j)->∀j,(l.foldl (λm p=>if M.testBit p.2 then m|||p.1 else m) m).testBit j=true->R j:=by
  intro l
  induction l with
  |nil=>intro m _ hm j hj;exact hm j hj
  |cons p l ih=>
   intro m hl hm j hj;refine ih _ (λq hq=>hl q (by simp[hq])) ?_ j hj
   intro k hk;simp only at hk;split at hk
   ·rename_i hb;rw[Nat.testBit_or,Qn]at hk;rcases hk with hk|hk
    ·exact hm k hk
    ·exact hl p (by simp) (hM _ hb) k hk
   ·exact hm k hk
 refine this ds.zipIdx M (λp hp hR j hj=> ?_) hM
 obtain⟨d,i⟩:=p;rw[List.mem_zipIdx_iff_getElem?]at hp;exact hd i d hp hR j hj
def Ui{ds:List Nat}{R:Nat->Prop}(hd:∀i d,ds[i]?=some d->R i->∀j,d.testBit j=true->R j):∀(n M:Nat),(∀j,M.testBit j=true->R j)->∀j,(EV ds n M).testBit j=true->R j
 |0,_,hM=>hM
 |n+1,_,hM=>Ui hd n _ (acB hd hM)
def RL(ops:List Oper):List (Nat×Nat):=
 let ds:=ops.map yF
 (List.range ops.length).flatMap λj=>
  let M:=EV ds ops.length (ds.getD j 0)
  (List.range j).filterMap λi=>if M.testBit i then none else some (i,j)
def SM(g h:SG):Bool:=
 (match g.d with|some t=> !h.cU.contains t&&h.d !=some t|none=>true)&&(match h.d with|some t=> !g.cU.contains t|none=>true)
def EG(p q:xP):Bool:=
 (match p.wr with|some i=> !q.rd.contains i&&q.wr !=some i|none=>true)&&(match q.wr with|some i=> !p.rd.contains i|none=>true)
def aau(ops:List Oper)(gs:List SG):Option (List (Nat×Nat)):=
 let un:=RL ops
 if un.all (λp=>match gs[p.1]?,gs[p.2]? with|some g,some h=>SM g h|_,_=>false)&&ops.zipIdx.all (λp=>p.1.after.toList.all λe=> !Region.binds .any e||decide (e.on<p.2))then
  some (un.filter λp=>match gs[p.1]?,gs[p.2]? with|some g,some h=>g.op.s7&&h.op.s7|_,_=>true)
 else none
def RX(Γs:Nat->qv)(base:Nat)(un:List (Nat×Nat))(gs:List SG)(S:St):Option St:=
 match qd Γs base (gs.zipIdx.map λp=>(p.2,p.1)) S with
 |none=>none
 |some (S',fs)=>if un.all (λp=>match fs[p.1]?,fs[p.2]? with|some a,some b=>EG a b|_,_=>false)then some S' else none
def Vo{nid:Nat}{S:St}{op:cu}(h:op.s7=false):iv nid S op=[]:=by
 cases op with
 |len b x=>cases b<;>simp_all [cu.s7,iv]
 |_=>simp_all [cu.s7,iv]
def Ze{nid:Nat}{S:St}{op:cu}(h:op.s7=false){p:PV×Option (Nat×gm)}(he:exec Γ nid S op=some p):p.2=none:=by
 cases op with
 |qj x|MH f c|MI f c=>simp only[exec,Qf]at he;rw[<-he]
 |pick c x y|not x|conv k x=>simp only[exec]at he;split at he<;>first|(injection he with he;rw[<-he])|cases he
 |bin op x y|build z ps=>simp only[exec,Qb]at he;obtain⟨_,_,rfl⟩:=he;rfl
 |mu n x y|we m x y=>
  simp only[exec]at he;split at he
  ·split at he
   ·injection he with he;rw[<-he]
   ·cases he
  ·cases he
 |KB n x y|Gn x=>
  simp only[exec]at he;split at he
  ·injection he with he;rw[<-he]
  ·cases he
 |Gr e n len k x y=>
  simp only[exec]at he;split at he
  ·split at he
   ·simp only[Qb]at he;obtain⟨_,_,rfl⟩:=he;rfl
   ·cases he
  ·cases he
 |Gj i x|MP n off x|G4 n ks x y=>
  simp only[exec]at he;split at he
  ·simp only[Qb]at he;obtain⟨_,_,rfl⟩:=he;rfl
  ·cases he
 |len b x=>
  cases b with
  |true=>simp only[exec]at he;split at he<;>first|(injection he with he;rw[<-he])|cases he
  |false=>simp[cu.s7]at h
 |_=>simp[cu.s7]at h
def RW{Γs:Nat->qv}{base:Nat}:∀(l:List (Nat×SG)) (S S':St) (fs:List xP),qd Γs base l S=some (S',fs)->fs.length=l.length/\∀(k i:Nat) (g:SG) (f:xP),l[k]?=some (i,g)->fs[k]?=some f->
  f.d=g.d/\f.us=g.cU/\(g.op.s7=false->f.rd=[]/\f.wr=none)
 |[],S,S',fs,h=>by simp only[qd,Qf,Prod.mk.injEq]at h;rw[<-h.2];exact⟨rfl,λk i g f hk=>by simp at hk⟩
 |(j,gj)::l,S,S',fs,h=>by
  simp only[qd]at h;split at h
  ·cases h
  ·rename_i p hp;split at h
   ·cases h
   ·rename_i S2 fs2 h2;injection h with h
    injection h with h3 h4
    subst h4;obtain⟨h5,h6⟩:=RW l _ _ _ h2;refine⟨by simp[h5],λk i g f hk hf=> ?_⟩
    cases k with
    |zero=>
     simp only[List.getElem?_cons_zero,Qf,Prod.mk.injEq]at hk hf;obtain⟨rfl,rfl⟩:=hk;subst hf;refine⟨rfl,rfl,λht=> ?_⟩
     unfold CI at hp;simp only[Gf,G3];split at hp
     ·rename_i hw;rw[hw];exact⟨Vo ht,by rw[Ze ht hp];rfl⟩
     ·rename_i hw;injection hp with hp
      subst hp;rw[hw];exact⟨rfl,rfl⟩
     ·cases hp
    |succ k=>exact h6 k i g f (by simpa using hk) (by simpa using hf)
def qX(gs:List SG)(listed:Array Bool):List (Nat×SG):=(gs.zipIdx.map λp=>(p.2,p.1)).filter λp=> !listed.getD p.1 true
def Ep{gs:List SG}{listed:Array Bool}{i:Nat}{g:SG}:(i,g)∈qX gs listed↔gs[i]?=some g/\listed.getD i true=false:=by
 unfold qX;simp only[List.mem_filter,QP,Prod.mk.injEq,Prod.exists,Bool.not_eq_true'];constructor
 ·rintro⟨⟨x,j,h1,rfl,rfl⟩,h2⟩;rw[List.mem_zipIdx_iff_getElem?]at h1;exact⟨h1,h2⟩
 ·rintro⟨h1,h2⟩;exact⟨⟨g,i,by rw[List.mem_zipIdx_iff_getElem?];exact h1,rfl,rfl⟩,h2⟩
def MD(gs:List SG)(listed:Array Bool):(qX gs listed).Pairwise λp q=>p.1<q.1:=by
 unfold qX;refine List.Pairwise.filter _ ?_;rw[List.pairwise_map]
 have:∀(l:List SG) (k:Nat),(l.zipIdx k).Pairwise λp q=>p.2<q.2:=by
  intro l
  induction l with
  |nil=>intro k;simp
  |cons x l ih=>
   intro k;rw[List.zipIdx_cons,Q4];refine⟨λq hq=> ?_,ih (k+1)⟩
   obtain⟨y,j⟩:=q;have:=List.le_snd_of_mem_zipIdx hq;simp only at this ⊢;omega
 exact this gs 0
def Nl{gs:List SG}{listed:Array Bool}{i:Nat}{g:SG}{l1 l2:List (Nat×SG)}(hi:i<listed.size)(h:qX gs listed=l1++(i,g)::l2):qX gs (listed.setIfInBounds i true)=l1++l2:=by
 have hsort:=MD gs listed;rw[h]at hsort
 have h1:qX gs (listed.setIfInBounds i true)=(qX gs listed).filter λp=>decide (p.1≠i):=by
  unfold qX;rw[List.filter_filter];congr 1
  funext p
  by_cases hp:p.1=i
  ·rw[hp];simp[QN,Array.getElem?_setIfInBounds_self_of_lt hi]
  ·have:(listed.setIfInBounds i true).getD p.1 true=listed.getD p.1 true:=by
    simp only[QN];rw[Array.getElem?_setIfInBounds_ne (λe=>hp e.symm)]
   rw[this];simp[hp]
 rw[h1,h,List.filter_append,List.filter_cons];simp only[ne_eq,not_true_eq_false,decide_false,Qq,Qu];rw[Qq69]at hsort;obtain⟨_,s2,s3⟩:=hsort;rw[Q4]at s2;rw[List.filter_eq_self.2,List.filter_eq_self.2]
 ·intro q hq;have:=s2.1 q hq;simp only at this;simp;omega
 ·intro q hq;have:=s3 q hq (i,g) (by simp)
  simp only at this;simp;omega
def Cl(ops:List Oper)(l:List (Nat×SG))(fs:List xP):Prop:=
 ∀(a b:Nat) (p q:Nat×SG) (f h:xP),a<b->l[a]?=some p->l[b]?=some q->fs[a]?=some f->fs[b]?=some h->(EV (ops.map yF) ops.length ((ops.map yF).getD q.1 0)).testBit p.1=false->aaO f h
def adT{Γs:Nat->qv}(hΓ:∀i,pD P (Γs i)){ops:Array Oper}{gs:List SG}(hc:ops.toList.mapM (wF P hs ops)=some gs)(hd:∀o∈ops.toList,∀t,o.dst=some t->E.can t){base:Nat}{S':St}{Q:Exit->Act->World->Prop}
  (hQ:∀a' w' L',Rel E S' a' w' L'->Q .normal a' w'):∀(fuel:Nat) (listed:Array Bool) (S:St) (a:Act) (w:World) (L:Nat->Value) (fs:List xP),listed.size=ops.size->
  (∀i o,ops[i]?=some o->listed.getD i true=true->∀e∈o.after,Region.binds .any e=true->listed.getD e.on true=true)->
  (∀i o,ops[i]?=some o->∀e∈o.after,Region.binds .any e=true->e.on<i)->
  Rel E S a w L->base+ops.size<=S.N->qd Γs base (qX gs listed) S=some (S',fs)->Cl ops.toList (qX gs listed) fs->(qX gs listed).length<=fuel->wpAnyIn (WF E.rd) 0 P .any ops Q fuel listed a w:=by
 have hgl:gs.length=ops.size:=by have:=yi hc;simpa using this
 intro fuel
 induction fuel with
 |zero=>
  intro listed S a w L fs hsz hcl hback h hN hrun hap hfu;have hp:qX gs listed=[]:=Qq67 (by omega)
  rw[hp]at hrun;simp only[qd,Qf,Prod.mk.injEq]at hrun
  have hrd:Region.ready .any ops listed=[]:=by
   rw[List.eq_nil_iff_forall_not_mem];intro i hi;simp only[Region.ready,List.mem_filter,List.mem_range,Qm,Bool.not_eq_true']at hi;obtain⟨h1,h2,_⟩:=hi;have:(i,gs[i]'(by omega))∈qX gs listed:=Ep.2 ⟨Qv (by omega),h2⟩
   rw[hp]at this;cases this
  refine⟨hrd,?_⟩;rw[hrun.1]at h;exact hQ a w L h
 |succ fuel ih=>
  intro listed S a w L fs hsz hcl hback h hN hrun hap hfu;refine⟨λhrd=> ?_,λi hi=> ?_⟩
  ·
   have hp:qX gs listed=[]:=by
    rcases hpe:qX gs listed with _|⟨⟨i,g⟩,l⟩
    ·rfl
    ·exfalso;have hmem:(i,g)∈qX gs listed:=by rw[hpe];simp
     obtain⟨h1,h2⟩:=Ep.1 hmem;have hil:i<ops.size:=by have:=(Qw.1 h1).1;omega
     have hmin:∀j,j<i->listed.getD j true=true:=by
      intro j hj
      cases hlj:listed.getD j true with
      |true=>rfl
      |false=>
       have hm:(j,gs[j]'(by omega))∈qX gs listed:=Ep.2 ⟨Qv (by omega),hlj⟩
       have hs:=MD gs listed;rw[hpe,Q4]at hs;rw[hpe]at hm;rcases QA.1 hm with hm|hm
       ·injection hm with hm;omega
       ·have:=hs.1 _ hm;simp only at this;omega
     have:i∈Region.ready .any ops listed:=by
      simp only[Region.ready,List.mem_filter,List.mem_range,Qm,Bool.not_eq_true'];refine⟨hil,h2,?_⟩;rw[Array.getElem?_eq_getElem hil];simp only[Qe,Q3,Array.all_eq_true_iff_forall_mem,Qn,Bool.not_eq_true'];intro e he
      cases hb:Region.binds .any e with
      |false=>exact .inl rfl
      |true=>
       right;have hlt:=hback i _ (Array.getElem?_eq_getElem hil) e he hb;have:=hmin e.on hlt;rw[QN]at this ⊢;rw[Array.getElem?_eq_getElem (by omega)]at this ⊢
       simpa using this
     rw[hrd]at this;cases this
   rw[hp]at hrun;simp only[qd,Qf,Prod.mk.injEq]at hrun;rw[hrun.1]at h;exact hQ a w L h
  ·simp only[Region.ready,List.mem_filter,List.mem_range,Qm,Bool.not_eq_true']at hi;obtain⟨hil,hli,hpre⟩:=hi;have ho:ops[i]?=some ops[i]:=Array.getElem?_eq_getElem hil;rw[ho]at hpre;simp only[Qe,Q3,Array.all_eq_true_iff_forall_mem,Qn,Bool.not_eq_true']at hpre;have hgi:gs[i]?=some (gs[i]'(by omega)):=Qv (by omega)
   have hmem:(i,gs[i]'(by omega))∈qX gs listed:=Ep.2 ⟨hgi,hli⟩
   obtain⟨l1,l2,hsplit⟩:=List.append_of_mem hmem;rw[hsplit]at hrun hap
   have hpreT:∀e∈ops[i].after,Region.binds .any e=true->listed.getD e.on true=true:=λe he hb=>by
    rcases hpre e he with h1|h1
    ·rw[hb]at h1;cases h1
    ·have hlt:=hback i _ ho e he hb;rw[QN]at h1 ⊢;rw[Array.getElem?_eq_getElem (by omega)]at h1 ⊢
     simpa using h1
   have hanc:∀j,(EV (ops.toList.map yF) ops.toList.length ((ops.toList.map yF).getD i 0)).testBit j=true->listed.getD j true=true:=by
    refine Ui (R:=λj=>listed.getD j true=true) (λk d hk hR=> ?_) _ _ ?_
    ·rw[QT,Qb]at hk;obtain⟨o,ho',rfl⟩:=hk;exact WM (λe he hb=>hcl k o (by simpa using ho') hR e he hb)
    ·have:(ops.toList.map yF).getD i 0=yF ops[i]:=by simp[List.getD_eq_getElem?_getD,hil]
     rw[this];exact WM (λe he hb=>hpreT e he hb)
   have hfl:=(RW _ _ _ _ hrun).1
   obtain⟨p,hp,_,hrest⟩:=JH l1 i _ l2 S S' fs hrun (λk fk fi hk hfk hfi=>by
    have hk1:(l1++(i,gs[i]'(by omega))::l2)[k]?=some l1[k]:=by rw[List.getElem?_append_left hk];exact Qv hk
    refine hap k l1.length l1[k] (i,gs[i]'(by omega)) fk fi hk hk1 (by simp) hfk hfi ?_
    cases hb:(EV (ops.toList.map yF) ops.toList.length ((ops.toList.map yF).getD i 0)).testBit l1[k].1 with
    |false=>rfl
    |true=>
     have h1:=hanc _ hb;have h2:l1[k]∈qX gs listed:=by rw[hsplit];simp[Q0]
     have h3:=(Ep (i:=l1[k].1) (g:=l1[k].2)).1 h2;rw[h3.2]at h1
     cases h1)
   have hcog:wF P hs ops ops[i]=some (gs[i]'(by omega)):=by
    have:∀(l:List Oper) (r:List SG),l.mapM (wF P hs ops)=some r->∀(k:Nat) (o:Oper) (g:SG),l[k]?=some o->r[k]?=some g->wF P hs ops o=some g:=by
     intro l
     induction l with
     |nil=>intro r _ k o g hk;simp at hk
     |cons x l ihl=>
      intro r hr k o g hk hg;simp only[Qq75,Qd,Qc,Option.pure_def,Qf]at hr;obtain⟨y,hy,ys,hys,rfl⟩:=hr
      cases k with
      |zero=>simp at hk hg;subst hk hg;exact hy
      |succ k=>exact ihl ys hys k o g (by simpa using hk) (by simpa using hg)
    exact this _ _ hc i _ _ (by simp) hgi
   have hstp:ya (Γs i) (base+i) S (gs[i]'(by omega))=some (S.cz (gs[i]'(by omega)).d p.1 p.2):=by rw[Yi,hp];rfl
   have hstep:=zw (K:=wpAnyIn (WF E.rd) 0 P .any ops Q fuel (listed.setIfInBounds i true)) (Q:=Q) (hΓ i) hcog h (nid:=base+i) (by omega) (hd _ (by simp)) hstp (λa' w' L' h'=>by
    refine ih _ _ a' w' L' (fs.eraseIdx l1.length) (by simpa using hsz) (λk o hk hlk e he hb=> ?_) hback h' hN (by rw[Nl (by omega) hsplit];exact hrest) ?_ ?_
    ·by_cases hki:k=i
     ·subst hki;rw[ho]at hk;injection hk with hk
      subst hk;have hlt:=hback k _ ho e he hb;have:=hpreT e he hb;simp only[QN]at this ⊢;rw[Array.getElem?_setIfInBounds_ne (by omega)]
      exact this
     ·have hlk':listed.getD k true=true:=by
       simp only[QN]at hlk ⊢;rw[Array.getElem?_setIfInBounds_ne (λe=>hki e.symm)]at hlk
       exact hlk
      have:=hcl k o hk hlk' e he hb
      by_cases hei:e.on=i
      ·rw[hei,QN,Array.getElem?_setIfInBounds_self_of_lt (by omega)]
       rfl
      ·simp only[QN]at this ⊢;rw[Array.getElem?_setIfInBounds_ne (λe=>hei e.symm)]
       exact this
    ·rw[Nl (by omega) hsplit]
     intro x y p' q' f h0 hxy hp' hq' hf hh hanc'
     have hget:∀(z:Nat),(l1++l2)[z]?=(l1++(i,gs[i]'(by omega))::l2)[if z<l1.length then z else z+1]?:=by
      intro z;split
      ·rename_i hz;rw[List.getElem?_append_left hz,List.getElem?_append_left hz]
      ·rename_i hz;rw[List.getElem?_append_right (by omega),List.getElem?_append_right (by omega)]
       have:z+1 - l1.length=(z - l1.length)+1:=by omega
       rw[this,List.getElem?_cons_succ]
     have hgetf:∀(z:Nat),(fs.eraseIdx l1.length)[z]?=fs[if z<l1.length then z else z+1]?:=by intro z;rw[List.getElem?_eraseIdx];split<;>rfl
     rw[hget]at hp' hq';rw[hgetf]at hf hh;refine hap _ _ p' q' f h0 ?_ hp' hq' hf hh hanc';split<;>split<;>omega
    ·rw[Nl (by omega) hsplit]
     rw[hsplit]at hfu;simp at hfu ⊢
     omega)
   unfold wpOpIn;rw[ho];simp only;split
   ·rename_i hw;rw[Qr hw]at hstep;exact hstep
   ·rename_i hw;rw[Qs hw]at hstep;exact hstep
def XS{ops:List Oper}{i j:Nat}(hj:j<ops.length)(hij:i<j)(h:(EV (ops.map yF) ops.length ((ops.map yF).getD j 0)).testBit i=false):(i,j)∈RL ops:=by unfold RL;simp only[QQ,List.mem_range,List.mem_filterMap];exact⟨j,hj,i,hij,by rw[h];rfl⟩
def adL{g h:SG}{f e:xP}(hf:f.d=g.d/\f.us=g.cU)(he:e.d=h.d/\e.us=h.cU)(ha:SM g h=true)(hi:EG f e=true):aaO f e:=by
 unfold SM at ha;unfold EG at hi;rw[Qm]at ha hi;obtain⟨a1,a2⟩:=ha;obtain⟨i1,i2⟩:=hi;refine⟨λt ht=> ?_,λt ht=> ?_,λt ht hq=> ?_,λi hw=> ?_,λi hw=> ?_,λi hw hq=> ?_⟩
 ·rw[hf.1]at ht;rw[ht]at a1;simp only[Qm,Bool.not_eq_true',List.contains_eq_mem,Qj]at a1;rw[he.2];exact a1.1
 ·rw[he.1]at ht;rw[ht]at a2;simp only[Bool.not_eq_true',List.contains_eq_mem,Qj]at a2;rw[hf.2];exact a2
 ·rw[hf.1]at ht;rw[he.1]at hq;rw[ht,hq]at a1;simp at a1
 ·rw[hw]at i1;simp only[Qm,Bool.not_eq_true',List.contains_eq_mem,Qj]at i1;exact i1.1
 ·rw[hw]at i2;simp only[Bool.not_eq_true',List.contains_eq_mem,Qj]at i2;exact i2
 ·rw[hw,hq]at i1;simp at i1
def adr(gs:List SG)(n:Nat)(hn:gs.length=n):qX gs (Array.replicate n false)=gs.zipIdx.map λp=>(p.2,p.1):=by
 unfold qX;rw[List.filter_eq_self];rintro⟨i,g⟩ hp;simp only[QP,Prod.mk.injEq,Prod.exists]at hp;obtain⟨x,j,h1,rfl,rfl⟩:=hp;rw[List.mem_zipIdx_iff_getElem?]at h1;have:=(Qw.1 h1).1;simp only[QN,Array.getElem?_replicate];rw[Qr (by omega)]
 rfl
def ajO{Γs:Nat->qv}(hΓ:∀i,pD P (Γs i))(hm:P.follows .mixedOrders=true){nt id:Nat}{ops:Array Oper}{gs:List SG}{un:List (Nat×Nat)}{Q:Exit->St->Prop}{S S':St}(hc:ops.toList.mapM (wF P hs ops)=some gs)(hd:∀o∈ops.toList,∀t,o.dst=some t->t<nt)
  (hu:aau ops.toList gs=some un) (hr:RX Γs S.N un gs {S with N:=S.N+gs.length}=some S') (h:Q .normal S'):V P nt (.region id ops true) Q S:=λE hE hk a w L hrel=>by
 have hl:gs.length=ops.size:=by have:=yi hc;simpa using this
 refine wpIn_region_any hm ?_;unfold aau at hu;simp only at hu;split at hu
 ·rename_i hchk;injection hu with hu
  rw[Qm]at hchk;obtain⟨hap,hback⟩:=hchk;unfold RX at hr;split at hr
  ·cases hr
  ·rename_i S1 fs hrun;split at hr
   ·rename_i hall;injection hr with hr
    subst hr;have hfp:=RW _ _ _ _ hrun;have hpd:=adr gs ops.size hl;refine adT (E:=E) (base:=S.N) hΓ hc (Xc hE hk hd) (λa' w' L' h'=>⟨S1,L',h',h⟩) ops.size (Array.replicate ops.size false) {S with N:=S.N+gs.length} a _ L fs (by simp) ?_ ?_ ((hrel.room gs.length).drew _) (by simp[hl]) (by rw[hpd];exact hrun) ?_ (by rw[hpd];simp[hl])
    ·intro i o ho hli;exfalso;have:=(Q9.1 ho).1;simp only[QN,Array.getElem?_replicate]at hli;rw[Qr this]at hli;cases hli
    ·intro i o ho e he hb;have h1:=QH.1 hback (o,i) (by rw[List.mem_zipIdx_iff_getElem?];simpa using ho)
     have h2:=QH.1 h1 e (by simpa using he)
     rw[hb]at h2;simpa using h2
    ·rw[hpd];intro x y p q f e hxy hp hq hf he hanc
     have hget:∀(z:Nat) (r:Nat×SG),(gs.zipIdx.map λp=>(p.2,p.1))[z]?=some r->r.1=z/\gs[z]?=some r.2:=by intro z r hz;simp only[QT,Qb,Prod.exists,List.getElem?_zipIdx,Prod.mk.injEq]at hz;obtain⟨u,v,⟨u',hu',rfl,rfl⟩,rfl⟩:=hz;exact⟨by simp,hu'⟩
     obtain⟨p1,p2⟩:=hget x p hp;obtain⟨q1,q2⟩:=hget y q hq;have fx:=hfp.2 x p.1 p.2 f hp hf;have fy:=hfp.2 y q.1 q.2 e hq he;have hy:y<ops.toList.length:=by have:=(Qw.1 q2).1;simp;omega
     rw[p1,q1]at hanc;have hmem:=XS hy hxy hanc;have ha:=QH.1 hap _ hmem;simp only[p2,q2]at ha;refine adL ⟨fx.1,fx.2.1⟩ ⟨fy.1,fy.2.1⟩ ha ?_
     cases htx:p.2.op.s7 with
     |false=>obtain⟨r1,r2⟩:=fx.2.2 htx;unfold EG;rw[r1,r2];cases e.wr<;>simp
     |true=>
      cases hty:q.2.op.s7 with
      |false=>obtain⟨r1,r2⟩:=fy.2.2 hty;unfold EG;rw[r1,r2];cases f.wr<;>simp
      |true=>
       have hin:(x,y)∈un:=by rw[<-hu,List.mem_filter];exact⟨hmem,by simp[p2,q2,htx,hty]⟩
       have:=QH.1 hall _ hin;simpa[hf,he]using this
   ·cases hr
 ·cases hu
end
end
end Go.TQ
end
