/-
  One operation over typed data, and that it is the operation. Conditions: none (generic in the program).
-/
import Derived.Test.YtnhgcpiljggmmaaGreatDoorKop
namespace Go.TQ

def idx {α : Type} (xs : List α) (n : Int) : Option α := if 0 ≤ n then xs[n.toNat]? else none
def lenOk (bytes n : Nat) : Bool := decide (n * bytes ≤ 140737488355328) && decide (n ≤ maxLen)
theorem lenOk_true {bytes n : Nat} (h : lenOk bytes n = true) : n * bytes ≤ 140737488355328 ∧ n ≤ maxLen := by
  simpa [lenOk] using h
theorem idx_some {α : Type} {xs : List α} {n : Int} {v : α} (h : idx xs n = some v) : 0 ≤ n ∧ n.toNat < xs.length ∧ xs[n.toNat]? = some v := by
  unfold idx at h
  split at h
  · rename_i h0; exact ⟨h0, (List.getElem?_eq_some_iff.1 h).1, h⟩
  · cases h

section
variable {U : TU}
def ldnK : Option Nat → List (KV U) → Option (KV U)
  | none, cs => (match cs with | x :: _ => some x | [] => none)
  | some n, cs => (match Nat.ble n cs.length with | true => some (.agg (cs.take n)) | false => none)
def spliceK (cs : List (KV U)) (off : Nat) (xs : List (KV U)) : List (KV U) := cs.take off ++ xs ++ cs.drop (off + xs.length)
def fillK (S : KSt U) : List (KV U) → List (Nat × Nat × Opd) → Option (List (KV U))
  | cs, [] => some cs
  | cs, (off, n, x) :: rest =>
    match Nat.beq (x.kval S).cells.length n && Nat.ble (off + n) cs.length && (x.kval S).cells.all KV.one with
    | true => fillK S (spliceK cs off (x.kval S).cells) rest
    | false => none
def fillEK (S : KSt U) (k : Nat) : List (List (KV U)) → List (Nat × Opd) → Option (List (List (KV U)))
  | es, [] => some es
  | es, (i, x) :: rest =>
    match Nat.beq (x.kval S).cells.length k && Nat.blt i es.length && (x.kval S).cells.all KV.one with
    | true => fillEK S k (es.set i (x.kval S).cells) rest
    | false => none
def decEs (K : TK U) (T : U.Ty) : List (List (KV U)) → Option (List (U.den T))
  | [] => some []
  | e :: es => match K.dec T noLk e with
    | some v => (match decEs K T es with | some vs => some (v :: vs) | none => none)
    | none => none
def binK {ρ : Type} (op : BinOp) (x y : KV U) (k : KV U → Option ρ) : Option ρ :=
  match x, y with
  | .int kd a, .int kd' b =>
    match op with
    | .shl => if b < 0 then none else k (.int kd (kd.wrap (a * 2 ^ (min b.toNat kd.bits))))
    | .shr => if b < 0 then none else k (.int kd (a.fdiv (2 ^ (min b.toNat kd.bits))))
    | _ => if kd = kd' then (match op with
      | .add => k (.int kd (kd.wrap (a + b)))
      | .sub => k (.int kd (kd.wrap (a - b)))
      | .mul => k (.int kd (kd.wrap (a * b)))
      | .quo => if b = 0 then none else k (.int kd (kd.wrap (a.tdiv b)))
      | .rem => if b = 0 then none else k (.int kd (a.tmod b))
      | .and => k (.int kd (kd.wrap ((BitVec.ofInt kd.bits a &&& BitVec.ofInt kd.bits b).toNat)))
      | .or => k (.int kd (kd.wrap ((BitVec.ofInt kd.bits a ||| BitVec.ofInt kd.bits b).toNat)))
      | .xor => k (.int kd (kd.wrap ((BitVec.ofInt kd.bits a ^^^ BitVec.ofInt kd.bits b).toNat)))
      | .andNot => k (.int kd (kd.wrap ((BitVec.ofInt kd.bits a &&& ~~~ BitVec.ofInt kd.bits b).toNat)))
      | .eql => k (.bool (decide (a = b)))
      | .neq => k (.bool (!decide (a = b)))
      | .lss => k (.bool (decide (a < b)))
      | .leq => k (.bool (decide (a ≤ b)))
      | .gtr => k (.bool (decide (b < a)))
      | .geq => k (.bool (decide (b ≤ a)))
      | _ => none) else none
  | .str a, .str b =>
    match op with
    | .eql => k (.bool (decide (a = b)))
    | .neq => k (.bool (!decide (a = b)))
    | .lss => k (.bool (sless a b))
    | .leq => k (.bool (sless a b || decide (a = b)))
    | .gtr => k (.bool (!(sless a b || decide (a = b))))
    | .geq => k (.bool (!sless a b))
    | _ => none
  | _, _ => none
/-- are cells without memory equal, one by one? -/
def eqCsK : List LK → List (KV U) → List (KV U) → Option Bool
  | [], cs, ds => (match cs, ds with | [], [] => some true | _, _ => none)
  | q :: ks, cs, ds => (match q, cs, ds with
    | .i, .int k a :: cs, .int l b :: ds => if k = l then (match eqCsK ks cs ds with | some r => some (decide (a = b) && r) | none => none) else none
    | .s, .str a :: cs, .str b :: ds => (match eqCsK ks cs ds with | some r => some (decide (a = b) && r) | none => none)
    | .b, .bool a :: cs, .bool b :: ds => (match eqCsK ks cs ds with | some r => some (decide (a = b) && r) | none => none)
    | _, _, _ => none)
theorem eqCsK_ok : ∀ {ks : List LK} {cs ds : List (KV U)} {b : Bool}, eqCsK ks cs ds = some b → eqCs ks (cs.map KV.pv) (ds.map KV.pv) = some b
  | [], cs, ds, b, h => by
    simp only [eqCsK] at h
    split at h
    · injection h with h; subst h; rfl
    · cases h
  | q :: ks, cs, ds, b, h => by
    simp only [eqCsK] at h
    split at h
    · split at h
      · rename_i hk
        split at h
        · rename_i r hr
          injection h with h
          subst h
          simp only [List.map_cons, KV.pv, eqCs, if_pos hk, eqCsK_ok hr, Option.map_some]
        · cases h
      · cases h
    · split at h
      · rename_i r hr
        injection h with h
        subst h
        simp only [List.map_cons, KV.pv, eqCs, eqCsK_ok hr, Option.map_some]
      · cases h
    · split at h
      · rename_i r hr
        injection h with h
        subst h
        simp only [List.map_cons, KV.pv, eqCs, eqCsK_ok hr, Option.map_some]
      · cases h
    · cases h
/-- the elements of a slice -/
def KSt.els (S : KSt U) (T : U.Ty) (x : KV U) : Option (List (U.den T)) := decL S.lk T x
def KSt.elv (S : KSt U) (T : U.Ty) (x : KV U) : Option (List (U.den T)) :=
  match x with
  | .view id ver kk lo n => (match S.row? id ver with
    | some r => (match Nat.beq r.k kk with
      | true => (match castL r.T T r.xs with | some xs => some ((xs.drop lo).take n) | none => none)
      | false => none)
    | none => none)
  | x => S.els T x
def KSt.lenK (S : KSt U) : KV U → Option Nat
  | .nils => some 0
  | .sl _ xs => some xs.length
  | .own id ver => (match S.row? id ver with
    | some r => some r.xs.length
    | none => (match S.raw? id ver with | some r => some r.es.length | none => none))
  | .view id ver kk lo n => (match S.row? id ver with
    | some r => (match Nat.beq r.k kk with | true => some ((r.xs.drop lo).take n).length | false => none)
    | none => none)
  | _ => none
def intK (S : KSt U) : Option Opd → Int → Option Int
  | none, d => some d
  | some x, _ => (match x.kval S with | .int _ n => some n | _ => none)
def slcOk (l h : Int) (n : Nat) : Bool := decide (0 ≤ l) && decide (l ≤ h) && decide (h ≤ n)

def SOp.opds : SOp → List Opd
  | .mov x | .box x | .boxr x | .load _ x | .faddr _ x | .not x | .conv _ x | .len _ x | .nilck x | .extr _ x | .isnil _ x | .clear _ _ x | .fld _ _ x => [x]
  | .pick c x y => [c, x, y]
  | .alloc _ => []
  | .store _ p x => [p, x]
  | .build _ ps => ps.map (·.2.2)
  | .bsl _ _ _ _ ps => ps.map (·.2)
  | .iaddr _ x i => [x, i]
  | .aaddr _ _ x i => [x, i]
  | .bin _ x y | .eq2 _ x y | .eqs _ _ x y | .eqb _ x y | .minmax _ x y | .sidx x y | .aidx _ _ _ _ x y | .lookup _ _ x y => [x, y]
  | .call _ xs => xs
  | .callv f xs => f :: xs
  | .app _ _ _ _ s x => [s, x]
  | .mkf _ xs => xs
  | .mkb _ xs => xs
  | .pur _ xs => xs
  | .cpy _ _ x y => [x, y]
  | .mks _ _ _ _ l c => [l, c]
  | .slc _ x lo hi => x :: (lo.toList ++ hi.toList)
def SOp.okc (op : SOp) : Bool := op.opds.all Opd.okc

variable (K : TK U)
/-- the elements of an array -/
def chunksK (T : U.Ty) (kk : Nat) : Nat → List (KV U) → Option (List (U.den T))
  | 0, _ => some []
  | n + 1, cs => (match K.dec T noLk (cs.take kk) with
    | some v => (match chunksK T kk n (cs.drop kk) with | some vs => some (v :: vs) | none => none)
    | none => none)
def aggOk (n : Option Nat) (ag : Bool) (kk : Nat) : Bool :=
  match n with
  | none => !ag && Nat.beq kk 1
  | some m => ag && Nat.beq m kk
theorem chunksK_get {T : U.Ty} {kk : Nat} : ∀ {n : Nat} {cs : List (KV U)} {vs : List (U.den T)}, chunksK K T kk n cs = some vs → vs.length = n ∧ ∀ (i : Nat) (v : U.den T), vs[i]? = some v → K.dec T noLk ((cs.drop (i * kk)).take kk) = some v
  | 0, cs, vs, h => by
    rw [chunksK] at h
    injection h with h
    subst h
    exact ⟨rfl, fun i v hv => by simp at hv⟩
  | n + 1, cs, vs, h => by
    rw [chunksK] at h
    split at h
    · rename_i v0 h0
      split at h
      · rename_i vs0 h1
        injection h with h
        subst h
        obtain ⟨h2, h3⟩ := chunksK_get h1
        refine ⟨by rw [List.length_cons, h2], fun i v hv => ?_⟩
        cases i with
        | zero =>
          simp only [List.getElem?_cons_zero, Option.some.injEq] at hv
          subst hv
          simpa using h0
        | succ i =>
          have := h3 i v (by simpa using hv)
          rw [List.drop_drop] at this
          rwa [Nat.succ_mul, Nat.add_comm]
      · cases h
    · cases h
/-- a map's value at a key -/
def mget {α β : Type} (f : α → Bool) (xs : List (α × β)) (d : β) : β :=
  match xs with
  | [] => d
  | p :: xs => bif f p.1 then p.2 else mget f xs d
def mhas {α β : Type} (f : α → Bool) (xs : List (α × β)) : Bool := xs.any fun p => f p.1
/-- is it the key of these two numbers? -/
def keqK (a b : Int) : List (KV U) → Bool
  | [.int _ a', .int _ b'] => decide (a = a') && decide (b = b')
  | _ => false
theorem zero_val {B : U.Ty} {z : PV} {d : U.den B} (hz : z.okc = true) (h : unval K noLk B (KV.ofc z) = some d) : valPV B d = nz z := by
  unfold unval at h
  split at h
  · split at h
    · rename_i cs hx
      exfalso
      unfold KV.ofc at hx
      split at hx <;> cases hx
    · cases h
  · rename_i hag
    have h1 := K.dec_ok B noLk _ _ h
    generalize hy : U.pv B d = ys at h1
    cases h1 with
    | cons hc ht =>
      cases ht
      rename_i y
      have hv : valPV B d = y := by
        unfold valPV
        rw [hag, hy]
        rfl
      rw [hv]
      generalize hx : (KV.ofc z : KV U) = x at hc
      unfold PV.okc at hz
      split at hz
      · simp only [KV.ofc] at hx; subst hx; cases hc; rfl
      · simp only [KV.ofc] at hx; subst hx; cases hc; rfl
      · simp only [KV.ofc] at hx; subst hx; cases hc; rfl
      · simp only [KV.ofc] at hx; subst hx; cases hc
      · simp only [KV.ofc] at hx; subst hx; cases hc; rfl
      · simp only [KV.ofc] at hx; subst hx; cases hc
      · simp only [KV.ofc] at hx; subst hx; cases hc; rfl
      · simp only [KV.ofc] at hx; subst hx; cases hc
      · cases hz
theorem mfind_of {A B : U.Ty} {k l : IntKind} {d : U.den B} (hA : U.agg A = true) (hk : ∀ v, ∃ a b, K.enc A v = [.int k a, .int l b]) (a b : Int) : ∀ (xs : List (U.den A × U.den B)),
    mfind k a l b (xs.map fun p => valPV A p.1) (xs.map fun p => valPV B p.2) = some (bif mhas (fun v => keqK a b (K.enc A v)) xs then some (valPV B (mget (fun v => keqK a b (K.enc A v)) xs d)) else none) ∧ (mhas (fun v => keqK a b (K.enc A v)) xs = false → mget (fun v => keqK a b (K.enc A v)) xs d = d)
  | [] => ⟨rfl, fun _ => rfl⟩
  | p :: xs => by
    obtain ⟨a', b', h⟩ := hk p.1
    have hv : valPV A p.1 = .agg [.int k a', .int l b'] := by
      unfold valPV
      rw [hA, ← K.enc_pv, h]
      rfl
    obtain ⟨ih, ih2⟩ := mfind_of hA hk a b xs
    have hq : keqK a b (K.enc A p.1) = (decide (a = a') && decide (b = b')) := by rw [h]; rfl
    simp only [List.map_cons, hv, mfind, and_self, if_true, mhas, List.any_cons, mget, hq]
    by_cases hab : a = a' ∧ b = b'
    · obtain ⟨rfl, rfl⟩ := hab
      simp
    · rw [if_neg hab, ih]
      have hf : (decide (a = a') && decide (b = b')) = false := by
        rw [Bool.and_eq_false_iff, decide_eq_false_iff_not, decide_eq_false_iff_not]
        by_cases h : a = a'
        · exact .inr fun h' => hab ⟨h, h'⟩
        · exact .inl h
      rw [hf]
      exact ⟨rfl, ih2⟩
/-- what append hands out -/
def appRK {ρ : Type} (z : Bool) (id ver e kk : Nat) (T : U.Ty) (xs : List (U.den T)) (k : KV U → Option (Nat × KObj U) → Option ρ) : Option ρ :=
  match z with
  | false => k (.own id ver) (some (id, ⟨ver, .row e kk T xs⟩))
  | true => k (.sl T xs) (some (id, ⟨ver, .dead⟩))
/-- the bytes of a row -/
def bytesK {α : Type} (f : α → Option UInt8) : List α → Option (List UInt8)
  | [] => some []
  | x :: l => (match f x, bytesK f l with
    | some b, some bs => some (b :: bs)
    | _, _ => none)
def bytesI (l : List Int) : Option (List UInt8) := bytesK byteOf l
def byte1 : List (KV U) → Option UInt8
  | [.int .u8 n] => byteOf n
  | _ => none
def isZI : PV → Bool
  | .int .i64 (.ofNat 0) => true
  | _ => false
def isZS : PV → Bool
  | .str s => Nat.beq s.size 0
  | _ => false
def purK {ρ : Type} (q : PQ) (xs : List (KV U)) (k : KV U → Option ρ) : Option ρ :=
  match q, xs with
  | .scat, [.str a, .str b] => (scat a b).bind fun v => k (.str v)
  | .sslc true false, [.str s, .int _ l] => (sslc s l s.size).bind fun v => k (.str v)
  | .sslc false true, [.str s, .int _ h] => (sslc s 0 h).bind fun v => k (.str v)
  | .sslc true true, [.str s, .int _ l, .int _ h] => (sslc s l h).bind fun v => k (.str v)
  | .b2s, [.sl T xs] => (bytesK (fun v => byte1 (K.enc T v)) xs).bind fun l => k (.str ⟨l.toArray⟩)
  | .mki T, [.int kd n] => k (.ifc T (.int kd n))
  | .mki T, [.str s] => k (.ifc T (.str s))
  | .tas T z, [.dyn Ti Ts b n s] => (match Nat.beq T Ti && isZI z, Nat.beq T Ts && isZS z, Nat.beq Ti Ts with
    | true, _, false => k (.tup [.int .i64 (cond b 0 n), .bool (!b)])
    | false, true, false => k (.tup [.str (cond b s ⟨#[]⟩), .bool b])
    | _, _, _ => none)
  | .inil neg, [.nili b] => k (.bool (xor neg b))
  | .inil neg, [.ifc ..] => k (.bool neg)
  | .neg, [.int kd n] => k (.int kd (kd.wrap (0 - n)))
  | _, _ => none
def execK {ρ : Type} (Γ : List (KFun U)) (nid : Nat) (S : KSt U) (op : SOp) (k : KV U → Option (Nat × KObj U) → Option ρ) : Option ρ :=
  match op with
  | .mov x => k (x.kval S) none
  | .pick c x y => (match c.kval S with
    | .bool b => (match b with | true => k (x.kval S) none | false => k (y.kval S) none)
    | _ => none)
  | .box x => (match (x.kval S).cells.all KV.one with
    | true => k (.ptr nid ((S.H nid).ver + 1) 0) (some (nid, ⟨(S.H nid).ver + 1, .box (x.kval S).cells⟩))
    | false => none)
  | .boxr x => (match (x.kval S).cells.all KV.one && (x.kval S).cells.all KV.closed with
    | true => k (.ref (x.kval S).cells) none
    | false => none)
  | .alloc z => (match z.all PV.okc with
    | true => k (.ptr nid ((S.H nid).ver + 1) 0) (some (nid, ⟨(S.H nid).ver + 1, .box (z.map KV.ofc)⟩))
    | false => none)
  | .load n p => (match p.kval S with
    | .ptr id ver off => (match S.box? id ver with
      | some cs => (match ldnK n (cs.drop off) with | some x => k x none | none => none)
      | none => none)
    | .eptr id ver kk i off => (match S.row? id ver with
      | some r => (match Nat.beq kk r.k with
        | true => (r.xs[i]?).bind fun v => (match ldnK n ((K.enc r.T v).drop off) with | some x => k x none | none => none)
        | false => none)
      | none => (match S.raw? id ver with
        | some r => (match Nat.beq kk r.k with
          | true => (match r.es[i]? with
            | some c => (match ldnK n (c.drop off) with | some x => k x none | none => none)
            | none => none)
          | false => none)
        | none => none))
    | .ref cs => (match ldnK n cs with | some x => k x none | none => none)
    | _ => none)
  | .store n p x => (match Nat.beq (x.kval S).cells.length n && (x.kval S).cells.all KV.one with
    | true => (match p.kval S with
      | .ptr id ver off => (match S.box? id ver with
        | some cs => (match Nat.ble (off + n) cs.length with
          | true => k .undef (some (id, ⟨ver, .box (spliceK cs off (x.kval S).cells)⟩))
          | false => none)
        | none => none)
      | .eptr id ver kk i off => (match S.row? id ver with
        | some r => (match Nat.beq kk r.k && Nat.beq (U.size r.T) r.k && Nat.ble (off + n) (U.size r.T) with
          | true => (r.xs[i]?).bind fun v => (match K.dec r.T noLk (spliceK (K.enc r.T v) off (x.kval S).cells) with
            | some v' => k .undef (some (id, ⟨ver, .row r.e r.k r.T (r.xs.set i v')⟩))
            | none => none)
          | false => none)
        | none => none)
      | _ => none)
    | false => none)
  | .build z ps => (match z.all PV.okc with
    | true => (match fillK S (z.map KV.ofc) ps with | some cs => k (.agg cs) none | none => none)
    | false => none)
  | .bsl m e kk z ps => (match K.tyOf e with
    | some T => (match Nat.beq (U.size T) kk && z.all (fun u => u.all PV.okc) with
      | true => (match fillEK S kk (z.map fun u => u.map KV.ofc) ps with
        | some es => (match decEs K T es with
          | some vs => (match m with
            | false => k (.sl T vs) none
            | true => k (.own nid ((S.H nid).ver + 1)) (some (nid, ⟨(S.H nid).ver + 1, .row e kk T vs⟩)))
          | none => none)
        | none => none)
      | false => none)
    | none => (match m && z.all (fun u => u.all PV.okc) with
      | true => (match fillEK S kk (z.map fun u => u.map KV.ofc) ps with
        | some es => (match es.all (fun c => c.all KV.noNil) with
          | true => k (.own nid ((S.H nid).ver + 1)) (some (nid, ⟨(S.H nid).ver + 1, .raw e kk es⟩))
          | false => none)
        | none => none)
      | false => none))
  | .faddr off p => (match p.kval S with
    | .ptr id ver o => (match S.box? id ver with | some _ => k (.ptr id ver (o + off)) none | none => none)
    | .eptr id ver kk i o => (match S.row? id ver with | some r => (r.xs[i]?).bind fun _ => k (.eptr id ver kk i (o + off)) none | none => none)
    | .ref cs => k (.ref (cs.drop off)) none
    | _ => none)
  | .iaddr kk x i => (match i.kval S with
    | .int _ n => (match x.kval S with
      | .sl T xs => (match Nat.beq (U.size T) kk with
        | true => (idx xs n).bind fun v => k (.ref (K.enc T v)) none
        | false => none)
      | .own id ver => (match S.row? id ver with
        | some r => (match Nat.beq kk r.k with
          | true => (idx r.xs n).bind fun _ => k (.eptr id ver kk n.toNat 0) none
          | false => none)
        | none => (match S.raw? id ver with
          | some r => (match n with
            | .ofNat j => (match Nat.beq kk r.k && Nat.blt j r.es.length with
              | true => k (.eptr id ver kk j 0) none
              | false => none)
            | _ => none)
          | none => none))
      | .view id ver kk' lo m => (match S.row? id ver with
        | some r => (match Nat.beq kk r.k && Nat.beq kk' kk with
          | true => (idx ((r.xs.drop lo).take m) n).bind fun _ => k (.eptr id ver kk (lo + n.toNat) 0) none
          | false => none)
        | none => none)
      | _ => none)
    | _ => none)
  | .bin op x y => binK op (x.kval S) (y.kval S) fun v => k v none
  | .eq2 neg x y => (match x.kval S, y.kval S with
    | .agg [.int kd a, .str s], .agg [.int kd' b, .str t] => if kd = kd' then k (.bool (xor neg (decide (a = b) && decide (s = t)))) none else none
    | _, _ => none)
  | .eqs neg ks x y => (match x.kval S, y.kval S with
    | .agg cs, .agg ds => (match eqCsK ks cs ds with | some b => k (.bool (xor neg b)) none | none => none)
    | _, _ => none)
  | .fld n off x => (match x.kval S with
    | .agg cs => (match ldnK n (cs.drop off) with | some v => k v none | none => none)
    | _ => none)
  | .pur q xs => purK K q (xs.map (·.kval S)) fun v => k v none
  | .cpy e kk x y => (match K.tyOf e with
    | some T => (match Nat.beq (U.size T) kk with
      | true => (match S.elv T (y.kval S) with
        | some ys => (match x.kval S with
          | .own id ver => (match S.row? id ver with
            | some r => (match Nat.beq r.e e && Nat.beq r.k kk with
              | true => (match castL r.T T r.xs with
                | some xs => k (.int .i64 (min xs.length ys.length : Nat)) (some (id, ⟨ver, .row e kk T (cpyL xs 0 xs.length ys)⟩))
                | none => none)
              | false => none)
            | none => none)
          | .view id ver kk' lo n => (match S.row? id ver with
            | some r => (match Nat.beq r.e e && Nat.beq r.k kk && Nat.beq kk' kk with
              | true => (match castL r.T T r.xs with
                | some xs => k (.int .i64 (min n ys.length : Nat)) (some (id, ⟨ver, .row e kk T (cpyL xs lo n ys)⟩))
                | none => none)
              | false => none)
            | none => none)
          | _ => none)
        | none => none)
      | false => none)
    | none => none)
  | .lookup ok z x y => (match x.kval S, y.kval S with
    | .mapv A B xs, .agg [.int kd a, .int ld b] => (match K.key2 A, z.okc, unval K noLk B (KV.ofc z) with
      | some (kd', ld'), true, some d => if kd = kd' ∧ ld = ld' then (match ok with
        | false => k (valK K B (mget (fun v => keqK a b (K.enc A v)) xs d)) none
        | true => k (.tup [valK K B (mget (fun v => keqK a b (K.enc A v)) xs d), .bool (mhas (fun v => keqK a b (K.enc A v)) xs)]) none) else none
      | _, _, _ => none)
    | _, _ => none)
  | .eqb neg x y => (match x.kval S, y.kval S with
    | .bool a, .bool b => k (.bool (xor neg (decide (a = b)))) none
    | _, _ => none)
  | .not x => (match x.kval S with | .bool b => k (.bool !b) none | _ => none)
  | .conv kd x => (match x.kval S with | .int _ n => k (.int kd (kd.wrap n)) none | _ => none)
  | .len true x => (match x.kval S with | .str s => k (.int .i64 s.size) none | _ => none)
  | .len false x => (match S.lenK (x.kval S) with | some n => k (.int .i64 n) none | none => none)
  | .call f xs => callK K nid S f (xs.map (·.kval S)) k Γ
  | .callv fv xs => (match fv.kval S with
    | .clo f caps => callK K nid S f (xs.map (·.kval S) ++ caps) k Γ
    | .bnd f first => callK K nid S f (first ++ xs.map (·.kval S)) k Γ
    | _ => none)
  | .app z e kk bytes s x => (match K.tyOf e with
    | some T => (match Nat.beq (U.size T) kk with
      | true => (match S.els T (x.kval S) with
        | some news => (match s.kval S with
          | .nils => bif lenOk bytes news.length then appRK z nid ((S.H nid).ver + 1) e kk T news k else none
          | .own id ver => (match S.row? id ver with
            | some r => (match Nat.beq r.e e && Nat.beq r.k kk with
              | true => (match castL r.T T r.xs with
                | some xs => bif lenOk bytes (xs.length + news.length) then appRK z id (ver + 1) e kk T (xs ++ news) k else none
                | none => none)
              | false => none)
            | none => none)
          | _ => none)
        | none => none)
      | false => none)
    | none => none)
  | .nilck x => (match x.kval S with
    | .ptr id ver off => (match S.box? id ver with | some _ => k (.ptr id ver off) none | none => none)
    | .ref cs => k (.ref cs) none
    | .clo f cs => k (.clo f cs) none
    | _ => none)
  | .extr i x => (match x.kval S with
    | .tup cs => (match cs[i]? with | some y => k y none | none => none)
    | _ => none)
  | .mkf f caps => k (.clo f (caps.map (·.kval S))) none
  | .mkb f first => k (.bnd f (first.map (·.kval S))) none
  | .mks e kk bytes z l c => (match K.tyOf e with
    | some T => (match Nat.beq (U.size T) kk && z.all PV.okc with
      | true => (match K.dec T noLk (z.map KV.ofc) with
        | some d => (match l.kval S, c.kval S with
          | .int _ n, .int _ m => bif decide (n = m) && decide (0 ≤ n) && lenOk bytes n.toNat then k (.own nid ((S.H nid).ver + 1)) (some (nid, ⟨(S.H nid).ver + 1, .row e kk T (List.replicate n.toNat d)⟩)) else none
          | _, _ => none)
        | none => none)
      | false => none)
    | none => none)
  | .slc kk x lo hi => (match x.kval S with
    | .sl T xs => (match Nat.beq (U.size T) kk with
      | true => (match intK S lo 0, intK S hi xs.length with
        | some l, some h => bif slcOk l h xs.length then k (.sl T ((xs.take h.toNat).drop l.toNat)) none else none
        | _, _ => none)
      | false => none)
    | .own id ver => (match S.row? id ver with
      | some r => (match Nat.beq kk r.k with
        | true => (match intK S lo 0, intK S hi r.xs.length with
          | some l, some h => bif slcOk l h r.xs.length then k (.view id ver kk l.toNat (h.toNat - l.toNat)) none else none
          | _, _ => none)
        | false => none)
      | none => none)
    | .view id ver kk' lo0 n0 => (match S.row? id ver with
      | some r => (match Nat.beq kk r.k && Nat.beq kk' kk with
        | true => (match intK S lo 0, intK S hi n0 with
          | some l, some h => bif slcOk l h n0 then k (.view id ver kk (lo0 + l.toNat) (h.toNat - l.toNat)) none else none
          | _, _ => none)
        | false => none)
      | none => none)
    | _ => none)
  | .sidx x i => (match x.kval S, i.kval S with
    | .str s, .int _ n => (sidx s n).bind fun b => k (.int .u8 b) none
    | _, _ => none)
  | .aidx e n len kk x i => (match x.kval S, i.kval S with
    | .agg cs, .int _ j => (match K.tyOf e with
      | some T => (match Nat.beq (U.size T) kk && aggOk n (U.agg T) kk with
        | true => (match chunksK K T kk len cs with
          | some vs => (idx vs j).bind fun v => k (valK K T v) none
          | none => none)
        | false => none)
      | none => none)
    | _, _ => none)
  | .clear kk z x => (match x.kval S with
    | .view id ver kk' lo n => (match S.row? id ver with
      | some r => (match Nat.beq kk r.k && Nat.beq kk' kk && Nat.beq (U.size r.T) kk && z.all PV.okc && Nat.beq z.length kk && (z.map (KV.ofc : PV → KV U)).all KV.one with
        | true => (match K.dec r.T noLk (z.map KV.ofc) with
          | some d => k (.tup []) (some (id, ⟨ver, .row r.e r.k r.T (r.xs.take lo ++ List.replicate n d ++ r.xs.drop (lo + n))⟩))
          | none => none)
        | false => none)
      | none => none)
    | _ => none)
  | .minmax mx x y => (match x.kval S, y.kval S with
    | .int kd a, .int kd' b => if kd = kd' then k (.int kd (if mx then (if b > a then b else a) else (if b < a then b else a))) none else none
    | _, _ => none)
  | .isnil neg x => (match x.kval S with
    | .nils => k (.bool !neg) none
    | .sl _ xs => bif xs.isEmpty then k .ubool none else k (.bool neg) none
    | _ => none)
  | .aaddr kk len x i => (match i.kval S with
    | .int _ (.ofNat n) => (match Nat.blt n len with
      | true => (match x.kval S with
        | .ptr id ver o => (match S.box? id ver with | some _ => k (.ptr id ver (o + n * kk)) none | none => none)
        | .ref cs => k (.ref (cs.drop (n * kk))) none
        | _ => none)
      | false => none)
    | _ => none)

variable {K}
variable {S : KSt U}
theorem box_st {id ver : Nat} {cs : List (KV U)} (h : S.box? id ver = some cs) : (S.st.H id).ver = ver ∧ (S.st.H id).c = .box (cs.map KV.pv) := by
  obtain ⟨h1, h2⟩ := box?_some h
  exact ⟨h1, by simp [KSt.st, KObj.pv, h2, KCont.pv]⟩
theorem ldnK_ok : ∀ {n : Option Nat} {cs : List (KV U)} {x : KV U}, ldnK n cs = some x → ldn n (cs.map KV.pv) = some x.pv
  | none, [], x, h => by cases h
  | none, y :: l, x, h => by injection h with h; subst h; rfl
  | some n, cs, x, h => by
    simp only [ldnK] at h
    split at h
    · rename_i hn
      injection h with h
      subst h
      rw [ldn, if_pos (by simpa using Nat.le_of_ble_eq_true hn), KV.pv, KV.pvs_map, List.map_take]
    · cases h
theorem splice_pv (cs xs : List (KV U)) (off : Nat) : (spliceK cs off xs).map KV.pv = splice (cs.map KV.pv) off (xs.map KV.pv) := by
  simp [spliceK, splice, List.map_append, List.map_take, List.map_drop]
theorem ofc_pv (S : KSt U) {x : PV} (h : x.okc = true) : (KV.ofc x : KV U).pv = x := (kval_pv (S := S) (x := .cst x) h).symm
theorem ofcs_pv {z : List PV} (S : KSt U) (h : z.all PV.okc = true) : (z.map (KV.ofc : PV → KV U)).map KV.pv = z := by
  induction z with
  | nil => rfl
  | cons x l ih =>
    rw [List.all_cons, Bool.and_eq_true] at h
    rw [List.map_cons, List.map_cons, ofc_pv S h.1, ih h.2]
theorem fillK_ok : ∀ {ps : List (Nat × Nat × Opd)} {cs cs' : List (KV U)}, (∀ p ∈ ps, p.2.2.okc = true) → fillK S cs ps = some cs' → fillPV S.st (cs.map KV.pv) ps = some (cs'.map KV.pv)
  | [], cs, cs', _, h => by injection h with h; subst h; rfl
  | (off, n, x) :: ps, cs, cs', ho, h => by
    simp only [fillK] at h
    split at h
    · rename_i hc
      simp only [Bool.and_eq_true] at hc
      obtain ⟨⟨h1, h2⟩, h3⟩ := hc
      have h1 := Nat.eq_of_beq_eq_true h1
      have h2 := Nat.le_of_ble_eq_true h2
      rw [fillPV, kval_pv (ho _ List.mem_cons_self), cells_pv, all_one_pv, if_pos ⟨by simpa using h1, by simpa using h2, h3⟩, ← splice_pv]
      exact fillK_ok (fun p hp => ho p (List.mem_cons_of_mem _ hp)) h
    · cases h
theorem fillEK_ok {kk : Nat} : ∀ {ps : List (Nat × Opd)} {es es' : List (List (KV U))}, (∀ p ∈ ps, p.2.okc = true) → fillEK S kk es ps = some es' → fillEs S.st kk (es.map fun e => e.map KV.pv) ps = some (es'.map fun e => e.map KV.pv)
  | [], es, es', _, h => by injection h with h; subst h; rfl
  | (i, x) :: ps, es, es', ho, h => by
    simp only [fillEK] at h
    split at h
    · rename_i hc
      simp only [Bool.and_eq_true] at hc
      obtain ⟨⟨h1, h2⟩, h3⟩ := hc
      have h1 := Nat.eq_of_beq_eq_true h1
      have h2 : i < es.length := Nat.le_of_ble_eq_true h2
      rw [fillEs, kval_pv (ho _ List.mem_cons_self), cells_pv, all_one_pv, if_pos ⟨by simpa using h1, by simpa using h2, h3⟩, ← List.map_set]
      exact fillEK_ok (fun p hp => ho p (List.mem_cons_of_mem _ hp)) h
    · cases h
theorem decEs_ok {T : U.Ty} : ∀ {es : List (List (KV U))} {vs : List (U.den T)}, decEs K T es = some vs → nzz (es.map fun e => e.map KV.pv) = vs.map (U.pv T) ∧ (es.map fun e => e.map KV.pv).all (fun u => u.all PV.closed) = true
  | [], vs, h => by injection h with h; subst h; exact ⟨rfl, rfl⟩
  | e :: es, vs, h => by
    rw [decEs] at h
    split at h
    · rename_i v hv
      split at h
      · rename_i vs' hvs
        injection h with h
        subst h
        obtain ⟨h1, h2⟩ := decEs_ok hvs
        obtain ⟨h3, h4⟩ := cells_nz (K.dec_ok _ _ _ _ hv)
        refine ⟨?_, ?_⟩
        · rw [List.map_cons, List.map_cons, ← h1, ← h3]; rfl
        · rw [List.map_cons, List.all_cons, all_closed_pv, h4, h2]; rfl
      · cases h
    · cases h
theorem good_one {y : PV} (h : y.good = true) : y.one = true := by
  cases y <;> first | rfl | cases h
theorem news_ok (T : U.Ty) (vs : List (U.den T)) {kk : Nat} (hk : U.size T = kk) (K : TK U) : (vs.map (U.pv T)).all (fun u => u.length == kk && u.all PV.one) = true := by
  refine List.all_eq_true.2 fun u hu => ?_
  obtain ⟨v, _, rfl⟩ := List.mem_map.1 hu
  rw [K.len, hk, List.all_eq_true.2 fun y hy => good_one (K.good T v y hy)]
  simp
theorem els_ok {T : U.Ty} {x : KV U} {vs : List (U.den T)} (h : S.els T x = some vs) : elems S.st x.pv = some (vs.map (U.pv T)) := by
  unfold KSt.els decL at h
  split at h
  · injection h with h; subst h; rfl
  · obtain ⟨e, rfl⟩ := castL_some h; subst e; rfl
  · rename_i id ver
    obtain ⟨hv, e, k, hc⟩ := lk_some h
    have hc1 : (S.st.H id).c = .row e k (vs.map (U.pv T)) := by simp [KSt.st, KObj.pv, hc, KCont.pv]
    have hv1 : (S.st.H id).ver = ver := hv
    rw [KV.pv, elems, if_pos hv1, hc1]
  · cases h
theorem castL_pv {T' T : U.Ty} {xs : List (U.den T')} {ys : List (U.den T)} (h : castL T' T xs = some ys) : xs.map (U.pv T') = ys.map (U.pv T) := by
  obtain ⟨e, rfl⟩ := castL_some h
  subst e
  rfl
theorem cpyL_map {α β : Type} (f : α → β) (xs : List α) (lo n : Nat) (ys : List α) : (cpyL xs lo n ys).map f = cpyL (xs.map f) lo n (ys.map f) := by simp [cpyL, List.map_take, List.map_drop]
theorem elv_ok {T : U.Ty} {x : KV U} {vs : List (U.den T)} (h : S.elv T x = some vs) : elems S.st x.pv = some (vs.map (U.pv T)) := by
  unfold KSt.elv at h
  split at h
  · rename_i id ver kk lo n
    split at h
    · rename_i r hr
      obtain ⟨h4, h5⟩ := row_st hr
      split at h
      · rename_i hk
        split at h
        · rename_i xs hc
          injection h with h
          subst h
          simp only [KV.pv, elems]
          rw [if_pos h4, h5]
          simp only
          rw [if_pos (Nat.eq_of_beq_eq_true hk), castL_pv hc, ← List.map_drop, ← List.map_take]
        · cases h
      · cases h
    · cases h
  · exact els_ok h
theorem bytesK_ok {T : U.Ty} : ∀ {xs : List (U.den T)} {l : List UInt8}, bytesK (fun v => byte1 (K.enc T v)) xs = some l → bytesOf (xs.map (U.pv T)) = some l
  | [], l, h => h
  | x :: xs, l, h => by
    simp only [bytesK] at h
    split at h
    · rename_i b bs hb hbs
      injection h with h
      subst h
      unfold byte1 at hb
      split at hb
      · rename_i n he
        have := K.enc_pv T x
        rw [he] at this
        simp only [List.map_cons, List.map_nil, KV.pv] at this
        simp only [List.map_cons, ← this, bytesOf, hb, bytesK_ok hbs]
      · cases hb
    · cases h
theorem isZI_eq {z : PV} (h : isZI z = true) : z = .int .i64 0 := by
  unfold isZI at h
  split at h
  · rfl
  · cases h
theorem isZS_eq {z : PV} (h : isZS z = true) : z = .str ⟨#[]⟩ := by
  unfold isZS at h
  split at h
  · rename_i s
    have h := Nat.eq_of_beq_eq_true h
    congr 1
    exact ByteArray.ext (Array.eq_empty_of_size_eq_zero h)
  · cases h
theorem purK_ok {ρ : Type} {q : PQ} {xs : List (KV U)} {k : KV U → Option ρ} {r : ρ} (h : purK K q xs k = some r) : ∃ v, evalP q (xs.map KV.pv) = some v.pv ∧ k v = some r := by
  unfold purK at h
  split at h
  · simp only [Option.bind_eq_some_iff] at h
    obtain ⟨v, hv, h⟩ := h
    exact ⟨_, by simp only [List.map_cons, List.map_nil, KV.pv, evalP, hv, Option.map_some], h⟩
  · simp only [Option.bind_eq_some_iff] at h
    obtain ⟨v, hv, h⟩ := h
    exact ⟨_, by simp only [List.map_cons, List.map_nil, KV.pv, evalP, hv, Option.map_some], h⟩
  · simp only [Option.bind_eq_some_iff] at h
    obtain ⟨v, hv, h⟩ := h
    exact ⟨_, by simp only [List.map_cons, List.map_nil, KV.pv, evalP, hv, Option.map_some], h⟩
  · simp only [Option.bind_eq_some_iff] at h
    obtain ⟨v, hv, h⟩ := h
    exact ⟨_, by simp only [List.map_cons, List.map_nil, KV.pv, evalP, hv, Option.map_some], h⟩
  · simp only [Option.bind_eq_some_iff] at h
    obtain ⟨v, hv, h⟩ := h
    exact ⟨_, by simp only [List.map_cons, List.map_nil, KV.pv, evalP, bytesK_ok hv, Option.map_some], h⟩
  · exact ⟨_, by simp [KV.pv, evalP, PV.plain, PV.one], h⟩
  · exact ⟨_, by simp [KV.pv, evalP, PV.plain, PV.one], h⟩
  · rename_i T z Ti Ts b n s
    split at h
    · rename_i h1 h3
      rw [Bool.and_eq_true] at h1
      have e1 := Nat.eq_of_beq_eq_true h1.1
      have e2 := isZI_eq h1.2
      have e3 := Nat.ne_of_beq_eq_false h3
      subst e1 e2
      refine ⟨_, ?_, h⟩
      cases b <;> simp [KV.pv, KV.pvs, evalP, Ne.symm e3]
    · rename_i _ h1 h3
      rw [Bool.and_eq_true] at h1
      have e1 := Nat.eq_of_beq_eq_true h1.1
      have e2 := isZS_eq h1.2
      have e3 := Nat.ne_of_beq_eq_false h3
      subst e1 e2
      refine ⟨_, ?_, h⟩
      cases b <;> simp [KV.pv, KV.pvs, evalP, e3]
    · cases h
  · exact ⟨_, rfl, h⟩
  · exact ⟨_, rfl, h⟩
  · exact ⟨_, rfl, h⟩
  · cases h

theorem lenK_ok {x : KV U} {n : Nat} (h : S.lenK x = some n) : ∃ es, elems S.st x.pv = some es ∧ es.length = n := by
  unfold KSt.lenK at h
  split at h
  · injection h with h; exact ⟨[], rfl, h⟩
  · rename_i T xs; injection h with h; exact ⟨xs.map (U.pv T), rfl, by simpa using h⟩
  · rename_i id ver
    split at h
    · rename_i r hr
      obtain ⟨hv, hc⟩ := row_st hr
      injection h with h
      refine ⟨r.xs.map (U.pv r.T), ?_, by simpa using h⟩
      rw [KV.pv, elems, if_pos hv, hc]
    · split at h
      · rename_i r hr
        obtain ⟨hv, hc⟩ := raw_st hr
        injection h with h
        refine ⟨r.es.map fun c => c.map KV.pv, ?_, by simpa using h⟩
        rw [KV.pv, elems, if_pos hv, hc]
      · cases h
  · rename_i id ver kk lo m
    split at h
    · rename_i r hr
      obtain ⟨hv, hc⟩ := row_st hr
      split at h
      · rename_i hk
        injection h with h
        refine ⟨((r.xs.drop lo).take m).map (U.pv r.T), ?_, by rw [List.length_map]; exact h⟩
        rw [KV.pv, elems, if_pos hv, hc]
        simp only
        rw [if_pos (Nat.eq_of_beq_eq_true hk), List.map_take, List.map_drop]
      · cases h
    · cases h
  · cases h
theorem optI_K {l : List Opd} {y : Option Opd} {d n : Int} (hi1 : ∀ (y : Opd) (d n : Int), y ∈ l → intK S (some y) d = some n → ∃ kd, y.val S.st = .int kd n) (hy : ∀ z, y = some z → z ∈ l) (h : intK S y d = some n) : optI S.st y d = some n := by
  cases y with
  | none => exact h
  | some z =>
    obtain ⟨kd, hz⟩ := hi1 z d n (hy z rfl) h
    simp only [optI, hz]
theorem kvals_pv {xs : List Opd} (h : ∀ x ∈ xs, x.okc = true) : xs.map (·.val S.st) = (xs.map (·.kval S)).map KV.pv := by
  rw [List.map_map]
  exact List.map_congr_left fun x hx => kval_pv (h x hx)
theorem binK_ok {ρ : Type} {op : BinOp} {x y : KV U} {k : KV U → Option ρ} {r : ρ} (h : binK op x y k = some r) : ∃ v : KV U, binPV op x.pv y.pv = some v.pv ∧ k v = some r := by
  unfold binK at h
  split at h
  · rename_i kd a kd' b
    cases op <;> simp only at h <;> simp only [KV.pv, binPV, binInt] <;>
    first
    | (split at h
       · cases h
       · rename_i h1; exact ⟨_, by rw [if_neg h1]; rfl, h⟩)
    | (split at h
       · rename_i h1
         rw [if_pos h1]
         first
         | exact ⟨_, rfl, h⟩
         | (split at h
            · cases h
            · rename_i h2; exact ⟨_, by rw [if_neg h2]; rfl, h⟩)
         | cases h
       · cases h)
  · rename_i a b
    cases op <;> simp only at h <;> simp only [KV.pv, binPV, binStr] <;> first | exact ⟨_, rfl, h⟩ | cases h
  · cases h

theorem appRK_ok (K : TK U) {ρ : Type} {z : Bool} {id ver e kk : Nat} {T : U.Ty} {xs : List (U.den T)} {k : KV U → Option (Nat × KObj U) → Option ρ} {r : ρ} (h : appRK z id ver e kk T xs k = some r) :
    ∃ x wr, appR z id ver e kk (xs.map (U.pv T)) = some (x.pv, wr.map objpv) ∧ k x wr = some r := by
  cases z with
  | false => exact ⟨_, _, rfl, h⟩
  | true =>
    refine ⟨_, _, ?_, h⟩
    simp only [appR]
    rw [if_pos]
    · rfl
    · refine List.all_eq_true.2 fun u hu => ?_
      obtain ⟨x, _, rfl⟩ := List.mem_map.1 hu
      exact List.all_eq_true.2 fun y hy => good_closed (K.good _ _ _ hy)
theorem execK_sound {P : Program} {ρ : Type} {Γ : List (KFun U)} {nid : Nat} {op : SOp} {k : KV U → Option (Nat × KObj U) → Option ρ} {r : ρ} (hΓ : AllK P Γ) (ho : op.okc = true) (h : execK K Γ nid S op k = some r) :
    ∃ Γ' x wr, TabOk P Γ' ∧ exec Γ' nid S.st op = some (x.pv, wr.map objpv) ∧ k x wr = some r := by
  have hov : ∀ x ∈ op.opds, x.val S.st = (x.kval S).pv := fun x hx => kval_pv (List.all_eq_true.1 ho x hx)
  have hoc : ∀ x ∈ op.opds, x.okc = true := fun x hx => List.all_eq_true.1 ho x hx
  have pure : ∀ {x : KV U} {wr : Option (Nat × KObj U)}, exec (fun _ => none) nid S.st op = some (x.pv, wr.map objpv) → k x wr = some r → ∃ Γ' x wr, TabOk P Γ' ∧ exec Γ' nid S.st op = some (x.pv, wr.map objpv) ∧ k x wr = some r :=
    fun {x wr} h1 h2 => ⟨fun _ => none, x, wr, fun f m hm => (by cases hm), h1, h2⟩
  cases op with
  | mov x =>
    have h1 := hov x (by simp [SOp.opds])
    exact pure (by rw [exec, h1]; rfl) h
  | pick c x y =>
    have h1 := hov c (by simp [SOp.opds])
    have h2 := hov x (by simp [SOp.opds])
    have h3 := hov y (by simp [SOp.opds])
    simp only [execK] at h
    split at h
    · rename_i b hb
      rw [hb] at h1
      split at h
      · exact pure (by rw [exec, h1]; simp only [KV.pv]; rw [h2]; rfl) h
      · exact pure (by rw [exec, h1]; simp only [KV.pv]; rw [h3]; rfl) h
    · cases h
  | box x =>
    have h1 := hov x (by simp [SOp.opds])
    simp only [execK] at h
    split at h
    · rename_i hb
      refine pure ?_ h
      rw [exec, h1, cells_pv, all_one_pv, if_pos hb]
      rfl
    · cases h
  | boxr x =>
    have h1 := hov x (by simp [SOp.opds])
    simp only [execK] at h
    split at h
    · rename_i hb
      refine pure ?_ h
      rw [exec, h1, cells_pv, all_one_pv, all_closed_pv, if_pos hb]
      simp only [KV.pv, KV.pvs_map, Option.map_none]
    · cases h
  | alloc z =>
    simp only [execK] at h
    split at h
    · rename_i hb
      refine pure ?_ h
      simp only [exec, Option.map_some, objpv, KObj.pv, KCont.pv, ofcs_pv S hb]
      rfl
    · cases h
  | load n p =>
    have h1 := hov p (by simp [SOp.opds])
    simp only [execK] at h
    split at h
    · rename_i id ver off hp
      rw [hp] at h1
      split at h
      · rename_i cs hb
        obtain ⟨h2, h3⟩ := box_st hb
        split at h
        · rename_i x hx
          refine pure ?_ h
          have := ldnK_ok hx
          rw [List.map_drop] at this
          rw [exec, h1]
          simp only [KV.pv]
          rw [if_pos h2, h3]
          simp only [this, Option.map_some, Option.map_none]
        · cases h
      · cases h
    · rename_i id ver kk i off hp
      rw [hp] at h1
      split at h
      · rename_i rr hb
        obtain ⟨h2, h3⟩ := row_st hb
        split at h
        · rename_i hk
          simp only [Option.bind_eq_some_iff] at h
          obtain ⟨v, hv, h⟩ := h
          split at h
          · rename_i x hx
            refine pure ?_ h
            have := ldnK_ok hx
            rw [List.map_drop, K.enc_pv] at this
            rw [exec, h1]
            simp only [KV.pv]
            rw [if_pos h2, h3]
            simp only [Nat.eq_of_beq_eq_true hk, if_true, List.getElem?_map, hv, Option.map_some, this, Option.map_none]
          · cases h
        · cases h
      · split at h
        · rename_i rr hb
          obtain ⟨h2, h3⟩ := raw_st hb
          split at h
          · rename_i hk
            split at h
            · rename_i c hc
              split at h
              · rename_i x hx
                refine pure ?_ h
                have := ldnK_ok hx
                rw [List.map_drop] at this
                rw [exec, h1]
                simp only [KV.pv]
                rw [if_pos h2, h3]
                simp only [Nat.eq_of_beq_eq_true hk, if_true, List.getElem?_map, hc, Option.map_some, this, Option.map_none]
              · cases h
            · cases h
          · cases h
        · cases h
    · rename_i cs hp
      rw [hp] at h1
      split at h
      · rename_i x hx
        refine pure ?_ h
        rw [exec, h1]
        simp only [KV.pv, KV.pvs_map, ldnK_ok hx, Option.map_some, Option.map_none]
      · cases h
    · cases h
  | store n p x =>
    have h1 := hov p (by simp [SOp.opds])
    have h2 := hov x (by simp [SOp.opds])
    simp only [execK] at h
    split at h
    · rename_i hc
      rw [Bool.and_eq_true] at hc
      have hl := Nat.eq_of_beq_eq_true hc.1
      have hc1 : (x.val S.st).cells.length = n ∧ (x.val S.st).cells.all PV.one = true := by
        rw [h2, cells_pv, all_one_pv]; exact ⟨by simpa using hl, hc.2⟩
      split at h
      · rename_i id ver off hp
        rw [hp] at h1
        split at h
        · rename_i cs hb
          obtain ⟨h3, h4⟩ := box_st hb
          split at h
          · rename_i hle
            refine pure ?_ h
            rw [exec, if_pos hc1, h1]
            simp only [KV.pv]
            rw [if_pos h3, h4]
            simp only [List.length_map]
            rw [if_pos (Nat.le_of_ble_eq_true hle), h2, cells_pv]
            simp only [Option.map_some, objpv, KObj.pv, KCont.pv, splice_pv]
          · cases h
        · cases h
      · rename_i id ver kk i off hp
        rw [hp] at h1
        split at h
        · rename_i rr hb
          obtain ⟨h3, h4⟩ := row_st hb
          split at h
          · rename_i hk
            simp only [Bool.and_eq_true] at hk
            obtain ⟨⟨hk1, hk2⟩, hk3⟩ := hk
            have hk1 := Nat.eq_of_beq_eq_true hk1
            have hk2 := Nat.eq_of_beq_eq_true hk2
            have hk3 := Nat.le_of_ble_eq_true hk3
            simp only [Option.bind_eq_some_iff] at h
            obtain ⟨v, hv, h⟩ := h
            split at h
            · rename_i v' hd
              refine pure ?_ h
              obtain ⟨h5, _⟩ := cells_nz (K.dec_ok _ _ _ _ hd)
              rw [splice_pv, K.enc_pv] at h5
              have h6 : splice (U.pv rr.T v) off (((x.kval S).cells.map KV.pv).map nz) = U.pv rr.T v' := by
                rw [← h5]
                have hnz : (U.pv rr.T v).map nz = U.pv rr.T v := by
                  refine (List.map_congr_left fun y hy => ?_).trans (List.map_id _)
                  have := K.good _ _ _ hy
                  cases y <;> first | rfl | cases this
                simp only [splice, List.map_append, List.map_take, List.map_drop, hnz, List.length_map]
              rw [exec, if_pos hc1, h1]
              simp only [KV.pv]
              rw [if_pos h3, h4]
              simp only [hk1, if_true, List.getElem?_map, hv, Option.map_some, K.len]
              rw [if_pos hk3, h2, cells_pv, h6]
              simp only [objpv, KObj.pv, KCont.pv, List.map_set]
            · cases h
          · cases h
        · cases h
      · cases h
    · cases h
  | build z ps =>
    simp only [execK] at h
    split at h
    · rename_i hz
      split at h
      · rename_i cs hf
        refine pure ?_ h
        have := fillK_ok (fun p hp => hoc _ (by simp only [SOp.opds, List.mem_map]; exact ⟨p, hp, rfl⟩)) hf
        rw [ofcs_pv S hz] at this
        rw [exec, this]
        simp only [Option.map_some, Option.map_none, KV.pv, KV.pvs_map]
      · cases h
    · cases h
  | bsl m e kk z ps =>
    simp only [execK] at h
    split at h
    · rename_i T hT
      split at h
      · rename_i hz
        rw [Bool.and_eq_true] at hz
        split at h
        · rename_i es hf
          split at h
          · rename_i vs hd
            have h1 := fillEK_ok (fun p hp => hoc _ (by simp only [SOp.opds, List.mem_map]; exact ⟨p, hp, rfl⟩)) hf
            have h2 : (z.map fun u => u.map (KV.ofc : PV → KV U)).map (fun e => e.map KV.pv) = z := by
              rw [List.map_map]
              refine (List.map_congr_left fun u hu => ?_).trans (List.map_id _)
              exact ofcs_pv S (List.all_eq_true.1 hz.2 u hu)
            rw [h2] at h1
            obtain ⟨h3, h4⟩ := decEs_ok hd
            split at h
            · refine pure ?_ h
              rw [exec, h1]
              simp only [h4, and_self, if_true, h3, KV.pv, Option.map_none]
            · refine pure ?_ h
              rw [exec, h1]
              simp only [Bool.true_eq_false, false_and, if_false, h3, KV.pv, Option.map_some, objpv, KObj.pv, KCont.pv]
              rfl
          · cases h
        · cases h
      · cases h
    · split at h
      · rename_i hz
        rw [Bool.and_eq_true] at hz
        split at h
        · rename_i es hf
          split at h
          · rename_i hnn
            have h1 := fillEK_ok (fun p hp => hoc _ (by simp only [SOp.opds, List.mem_map]; exact ⟨p, hp, rfl⟩)) hf
            have h2 : (z.map fun u => u.map (KV.ofc : PV → KV U)).map (fun e => e.map KV.pv) = z := by
              rw [List.map_map]
              refine (List.map_congr_left fun u hu => ?_).trans (List.map_id _)
              exact ofcs_pv S (List.all_eq_true.1 hz.2 u hu)
            rw [h2] at h1
            have h3 : nzz (es.map fun e => e.map KV.pv) = es.map fun e => e.map KV.pv := by
              unfold nzz
              rw [List.map_map]
              refine List.map_congr_left fun c hc => ?_
              simp only [Function.comp, List.map_map]
              refine List.map_congr_left fun y hy => ?_
              have := List.all_eq_true.1 (List.all_eq_true.1 hnn c hc) y hy
              cases y <;> first | rfl | cases this | simp [KV.pv, nz]
            have hm : m = true := hz.1
            subst hm
            refine pure ?_ h
            rw [exec, h1]
            simp only [Bool.true_eq_false, false_and, if_false, h3, KV.pv, Option.map_some, objpv, KObj.pv, KCont.pv]
            rfl
          · cases h
        · cases h
      · cases h
  | faddr off p =>
    have h1 := hov p (by simp [SOp.opds])
    simp only [execK] at h
    split at h
    · rename_i id ver o hp
      rw [hp] at h1
      split at h
      · rename_i cs hb
        obtain ⟨h2, h3⟩ := box_st hb
        refine pure ?_ h
        rw [exec, h1]
        simp only [KV.pv]
        rw [if_pos h2, h3]
        rfl
      · cases h
    · rename_i id ver kk i o hp
      rw [hp] at h1
      split at h
      · rename_i rr hb
        obtain ⟨h2, h3⟩ := row_st hb
        simp only [Option.bind_eq_some_iff] at h
        obtain ⟨v, hv, h⟩ := h
        refine pure ?_ h
        have hi := (List.getElem?_eq_some_iff.1 hv).1
        rw [exec, h1]
        simp only [KV.pv]
        rw [if_pos h2, h3]
        simp only [List.length_map, hi, if_true, Option.map_none]
      · cases h
    · rename_i cs hp
      rw [hp] at h1
      refine pure ?_ h
      rw [exec, h1]
      simp only [KV.pv, KV.pvs_map, List.map_drop, Option.map_none]
    · cases h
  | iaddr kk x i =>
    have h1 := hov x (by simp [SOp.opds])
    have h2 := hov i (by simp [SOp.opds])
    simp only [execK] at h
    split at h
    · rename_i kd n hn
      rw [hn] at h2
      split at h
      · rename_i T xs hx
        rw [hx] at h1
        split at h
        · rename_i hk
          simp only [Option.bind_eq_some_iff] at h
          obtain ⟨v, hv, h⟩ := h
          obtain ⟨hi0, hi1, hi2⟩ := idx_some hv
          refine pure ?_ h
          rw [exec, h2]
          simp only [KV.pv]
          rw [h1]
          simp only [KV.pv, List.length_map]
          rw [if_pos ⟨hi0, by omega⟩]
          simp only [List.getElem?_map, hi2, Option.map_some, K.len, Nat.eq_of_beq_eq_true hk, if_true, KV.pvs_map, K.enc_pv, Option.map_none]
        · cases h
      · rename_i id ver hx
        rw [hx] at h1
        split at h
        · rename_i rr hb
          obtain ⟨h3, h4⟩ := row_st hb
          split at h
          · rename_i hk
            simp only [Option.bind_eq_some_iff] at h
            obtain ⟨v, hv, h⟩ := h
            obtain ⟨hi0, hi1, hi2⟩ := idx_some hv
            refine pure ?_ h
            rw [exec, h2]
            simp only [KV.pv]
            rw [h1]
            simp only [KV.pv]
            rw [if_pos h3, h4]
            simp only [List.length_map]
            rw [if_pos ⟨Nat.eq_of_beq_eq_true hk, hi0, by omega⟩]
            rfl
          · cases h
        · split at h
          · rename_i rr hb
            obtain ⟨h3, h4⟩ := raw_st hb
            split at h
            · rename_i j
              split at h
              · rename_i hk
                rw [Bool.and_eq_true] at hk
                have hlt : j < rr.es.length := Nat.le_of_ble_eq_true hk.2
                refine pure ?_ h
                rw [exec, h2]
                simp only [KV.pv]
                rw [h1]
                simp only [KV.pv]
                rw [if_pos h3, h4]
                simp only [List.length_map]
                rw [if_pos ⟨Nat.eq_of_beq_eq_true hk.1, Int.natCast_nonneg j, Int.ofNat_lt.2 hlt⟩]
                rfl
              · cases h
            · cases h
          · cases h
      · rename_i id ver kk' lo m hx
        rw [hx] at h1
        split at h
        · rename_i rr hb
          obtain ⟨h3, h4⟩ := row_st hb
          split at h
          · rename_i hk
            rw [Bool.and_eq_true] at hk
            simp only [Option.bind_eq_some_iff] at h
            obtain ⟨v, hv, h⟩ := h
            obtain ⟨hi0, hi1, hi2⟩ := idx_some hv
            refine pure ?_ h
            rw [exec, h2]
            simp only [KV.pv]
            rw [h1]
            simp only [KV.pv]
            rw [if_pos h3, h4]
            simp only [List.length_map]
            simp only [List.length_take, List.length_drop] at hi1
            rw [if_pos ⟨Nat.eq_of_beq_eq_true hk.1, Nat.eq_of_beq_eq_true hk.2, hi0, by omega, by omega⟩]
            rfl
          · cases h
        · cases h
      · cases h
    · cases h
  | sidx x i =>
    have h1 := hov x (by simp [SOp.opds])
    have h2 := hov i (by simp [SOp.opds])
    simp only [execK] at h
    split at h
    · rename_i s _ n hx hi
      rw [hx] at h1
      rw [hi] at h2
      simp only [Option.bind_eq_some_iff] at h
      obtain ⟨b, hb, h⟩ := h
      refine pure ?_ h
      rw [exec, h1, h2]
      simp only [KV.pv, hb, Option.map_some, Option.map_none]
    · cases h
  | aidx e n len kk x i =>
    have h1 := hov x (by simp [SOp.opds])
    have h2 := hov i (by simp [SOp.opds])
    simp only [execK] at h
    split at h
    · rename_i cs _ j hx hi
      rw [hx] at h1
      rw [hi] at h2
      split at h
      · rename_i T hT
        split at h
        · rename_i hk
          split at h
          · rename_i vs hvs
            simp only [Option.bind_eq_some_iff] at h
            obtain ⟨v, hv, h⟩ := h
            obtain ⟨hlen, hget⟩ := chunksK_get K hvs
            have hv0 : 0 ≤ j ∧ vs[j.toNat]? = some v := by
              unfold idx at hv
              split at hv
              · rename_i h0; exact ⟨h0, hv⟩
              · cases hv
            have hjl : j.toNat < vs.length := (List.getElem?_eq_some_iff.1 hv0.2).1
            obtain ⟨hnz, _⟩ := cells_nz (K.dec_ok _ _ _ _ (hget _ _ hv0.2))
            rw [Bool.and_eq_true] at hk
            have hkk := Nat.eq_of_beq_eq_true hk.1
            have hpl := K.len T v
            have hcl : ((cs.drop (j.toNat * kk)).take kk).length = kk := by
              have := congrArg List.length hnz
              simp only [List.length_map] at this
              omega
            refine pure ?_ h
            rw [exec, h1, h2]
            simp only [KV.pv, KV.pvs_map]
            rw [if_pos ⟨hv0.1, by omega⟩, valK_pv]
            have hsplit : ((cs.map KV.pv).drop (j.toNat * kk)).map nz = U.pv T v ++ (((cs.drop (j.toNat * kk)).drop kk).map KV.pv).map nz := by
              rw [← hnz, ← List.map_append, ← List.map_append, List.take_append_drop, List.map_drop, List.map_drop, List.map_drop]
            rw [hsplit]
            cases n with
            | none =>
              simp only [aggOk, Bool.and_eq_true, Bool.not_eq_true'] at hk
              have h1k := Nat.eq_of_beq_eq_true hk.2.2
              obtain ⟨y, hy1, hy2⟩ := valPV_head K v hk.2.1
              cases hp : U.pv T v with
              | nil => rw [hp] at hy2; cases hy2
              | cons y0 l =>
                have hl0 : l = [] := by
                  rw [hp, List.length_cons] at hpl
                  exact List.eq_nil_of_length_eq_zero (by omega)
                rw [hp, hl0, List.mem_singleton] at hy2
                rw [hl0]
                simp only [List.singleton_append, ldn, Option.map_some, Option.map_none]
                rw [hy1, hy2]
            | some m =>
              simp only [aggOk, Bool.and_eq_true] at hk
              have hm := Nat.eq_of_beq_eq_true hk.2.2
              subst hm
              simp only [ldn]
              rw [if_pos (by rw [List.length_append]; omega), List.take_append_of_le_length (by omega), List.take_of_length_le (by omega), valPV_agg v hk.2.1]
              rfl
          · cases h
        · cases h
      · cases h
    · cases h
  | clear kk z x =>
    have h1 := hov x (by simp [SOp.opds])
    simp only [execK] at h
    split at h
    · rename_i id ver kk' lo n hx
      rw [hx] at h1
      split at h
      · rename_i rr hb
        obtain ⟨h3, h4⟩ := row_st hb
        split at h
        · rename_i hk
          simp only [Bool.and_eq_true] at hk
          obtain ⟨⟨⟨⟨⟨k1, k2⟩, k3⟩, k4⟩, k5⟩, k6⟩ := hk
          split at h
          · rename_i d hd
            refine pure ?_ h
            have h7 := (cells_nz (K.dec_ok _ _ _ _ hd)).1
            rw [ofcs_pv S k4] at h7
            have h8 : z.all PV.one = true := by rw [← all_one_pv, ofcs_pv S k4] at k6; exact k6
            have e1 := Nat.eq_of_beq_eq_true k1
            have e2 := Nat.eq_of_beq_eq_true k2
            have e5 := Nat.eq_of_beq_eq_true k5
            rw [exec, h1]
            simp only [KV.pv]
            rw [if_pos h3, h4]
            simp only
            rw [if_pos ⟨e1, e2, e5, h8⟩, h7]
            simp only [Option.map_some, objpv, KObj.pv, KCont.pv, List.map_append, List.map_take, List.map_drop, List.map_replicate, KV.pvs]
            rw [e1]
          · cases h
        · cases h
      · cases h
    · cases h
  | aaddr kk len x i =>
    have h1 := hov x (by simp [SOp.opds])
    have h2 := hov i (by simp [SOp.opds])
    simp only [execK] at h
    split at h
    · rename_i kd n hi
      rw [hi] at h2
      split at h
      · rename_i hb
        have hlt : n < len := by simpa using hb
        have hc : (0 : Int) ≤ Int.ofNat n ∧ Int.ofNat n < (len : Int) := ⟨Int.natCast_nonneg n, Int.ofNat_lt.2 hlt⟩
        split at h
        · rename_i id ver o hx
          rw [hx] at h1
          split at h
          · rename_i cs hbx
            obtain ⟨h3, h4⟩ := box_st hbx
            refine pure ?_ h
            rw [exec, h2]
            simp only [KV.pv]
            rw [if_pos hc, h1]
            simp only [KV.pv]
            rw [if_pos h3, h4]
            rfl
          · cases h
        · rename_i cs hx
          rw [hx] at h1
          refine pure ?_ h
          rw [exec, h2]
          simp only [KV.pv]
          rw [if_pos hc, h1]
          simp only [KV.pv, KV.pvs_map, List.map_drop, Option.map_none]
          rfl
        · cases h
      · cases h
    · cases h
  | bin op x y =>
    have h1 := hov x (by simp [SOp.opds])
    have h2 := hov y (by simp [SOp.opds])
    simp only [execK] at h
    obtain ⟨v, h3, h4⟩ := binK_ok h
    refine pure ?_ h4
    rw [exec, h1, h2, h3]
    rfl
  | eq2 neg x y =>
    have h1 := hov x (by simp [SOp.opds])
    have h2 := hov y (by simp [SOp.opds])
    simp only [execK] at h
    split at h
    · rename_i hx hy
      rw [hx] at h1
      rw [hy] at h2
      split at h
      · rename_i hk
        refine pure ?_ h
        rw [exec, h1, h2]
        simp only [KV.pv, KV.pvs, hk, if_true, Option.map_none]
      · cases h
    · cases h
  | pur q xs =>
    simp only [execK] at h
    have hx : xs.map (·.val S.st) = (xs.map (·.kval S)).map KV.pv := by rw [List.map_map]; exact List.map_congr_left fun y hy => hov y (by simpa [SOp.opds] using hy)
    obtain ⟨v, hv, h⟩ := purK_ok h
    refine pure ?_ h
    rw [exec, hx, hv]
    rfl
  | cpy e kk x y =>
    have h1 := hov x (by simp [SOp.opds])
    have h2 := hov y (by simp [SOp.opds])
    simp only [execK] at h
    split at h
    · rename_i T hT
      split at h
      · rename_i hk
        have hk := Nat.eq_of_beq_eq_true hk
        split at h
        · rename_i ys hn
          have h3 := elv_ok hn
          split at h
          · rename_i id ver hs
            rw [hs] at h1
            split at h
            · rename_i rr hb
              obtain ⟨h4, h5⟩ := row_st hb
              split at h
              · rename_i he
                rw [Bool.and_eq_true] at he
                have he1 := Nat.eq_of_beq_eq_true he.1
                have he2 := Nat.eq_of_beq_eq_true he.2
                split at h
                · rename_i xs hc
                  have hpv : rr.xs.map (U.pv rr.T) = xs.map (U.pv T) := castL_pv hc
                  refine pure ?_ h
                  rw [exec, h2, h3]
                  simp only [h1, KV.pv]
                  rw [if_pos h4, h5]
                  simp only [hpv, List.length_map]
                  rw [if_pos ⟨he1.symm, he2.symm, news_ok T ys hk K⟩]
                  simp only [Option.map_some, objpv, KObj.pv, KCont.pv, cpyL_map]
                · cases h
              · cases h
            · cases h
          · rename_i id ver kk' lo n hs
            rw [hs] at h1
            split at h
            · rename_i rr hb
              obtain ⟨h4, h5⟩ := row_st hb
              split at h
              · rename_i he
                rw [Bool.and_eq_true, Bool.and_eq_true] at he
                have he1 := Nat.eq_of_beq_eq_true he.1.1
                have he2 := Nat.eq_of_beq_eq_true he.1.2
                have he3 := Nat.eq_of_beq_eq_true he.2
                split at h
                · rename_i xs hc
                  have hpv : rr.xs.map (U.pv rr.T) = xs.map (U.pv T) := castL_pv hc
                  refine pure ?_ h
                  rw [exec, h2, h3]
                  simp only [h1, KV.pv]
                  rw [if_pos h4, h5]
                  simp only [hpv, List.length_map]
                  rw [if_pos ⟨he1.symm, he2.symm, he3, news_ok T ys hk K⟩]
                  simp only [Option.map_some, objpv, KObj.pv, KCont.pv, cpyL_map]
                · cases h
              · cases h
            · cases h
          · cases h
        · cases h
      · cases h
    · cases h
  | fld n off x =>
    have h1 := hov x (by simp [SOp.opds])
    simp only [execK] at h
    split at h
    · rename_i cs hp
      rw [hp] at h1
      split at h
      · rename_i v hx
        refine pure ?_ h
        have := ldnK_ok hx
        rw [List.map_drop] at this
        rw [exec, h1]
        simp only [KV.pv, KV.pvs_map, this, Option.map_some, Option.map_none]
      · cases h
    · cases h
  | lookup ok z x y =>
    have h1 := hov x (by simp [SOp.opds])
    have h2 := hov y (by simp [SOp.opds])
    simp only [execK] at h
    split at h
    · rename_i A B xs kd a ld b hx hy
      rw [hx] at h1
      rw [hy] at h2
      split at h
      · rename_i kd' ld' d hkey hzo hzd
        split at h
        · rename_i hkl
          obtain ⟨rfl, rfl⟩ := hkl
          obtain ⟨hA, hk⟩ := K.key2_ok A kd ld hkey
          obtain ⟨hm, hm2⟩ := mfind_of K (B := B) (d := d) hA hk a b xs
          have hz : valPV B d = nz z := zero_val K hzo hzd
          have hr : (bif mhas (fun v => keqK a b (K.enc A v)) xs then some (valPV B (mget (fun v => keqK a b (K.enc A v)) xs d)) else none : Option PV).getD (nz z) = valPV B (mget (fun v => keqK a b (K.enc A v)) xs d) := by
            cases hh : mhas (fun v => keqK a b (K.enc A v)) xs with
            | true => rfl
            | false => rw [hm2 hh, hz]; rfl
          have hi : (bif mhas (fun v => keqK a b (K.enc A v)) xs then some (valPV B (mget (fun v => keqK a b (K.enc A v)) xs d)) else none : Option PV).isSome = mhas (fun v => keqK a b (K.enc A v)) xs := by
            cases hh : mhas (fun v => keqK a b (K.enc A v)) xs <;> rfl
          cases ok with
          | false =>
            refine pure ?_ h
            rw [exec, h1, h2]
            simp only [KV.pv, KV.pvs, hm, Option.map_some, Bool.false_eq_true, if_false, hr, valK_pv, Option.map_none]
          | true =>
            refine pure ?_ h
            rw [exec, h1, h2]
            simp only [KV.pv, KV.pvs, hm, Option.map_some, if_true, hr, hi, valK_pv, Option.map_none]
        · cases h
      · cases h
    · cases h
  | eqb neg x y =>
    have h1 := hov x (by simp [SOp.opds])
    have h2 := hov y (by simp [SOp.opds])
    simp only [execK] at h
    split at h
    · rename_i hx hy
      rw [hx] at h1
      rw [hy] at h2
      refine pure ?_ h
      rw [exec, h1, h2]
      rfl
    · cases h
  | not x =>
    have h1 := hov x (by simp [SOp.opds])
    simp only [execK] at h
    split at h
    · rename_i hx
      rw [hx] at h1
      exact pure (by rw [exec, h1]; rfl) h
    · cases h
  | conv kd x =>
    have h1 := hov x (by simp [SOp.opds])
    simp only [execK] at h
    split at h
    · rename_i hx
      rw [hx] at h1
      exact pure (by rw [exec, h1]; rfl) h
    · cases h
  | len b x =>
    have h1 := hov x (by simp [SOp.opds])
    cases b with
    | true =>
      simp only [execK] at h
      split at h
      · rename_i hx
        rw [hx] at h1
        exact pure (by rw [exec, h1]; rfl) h
      · cases h
    | false =>
      simp only [execK] at h
      split at h
      · rename_i n hx
        obtain ⟨es, h2, h3⟩ := lenK_ok hx
        exact pure (by rw [exec, h1, h2]; simp only [Option.map_some, Option.map_none, KV.pv, h3]) h
      · cases h
  | call f xs =>
    simp only [execK] at h
    obtain ⟨Γ', x, wr, h1, h2, h3⟩ := callK_sound hΓ h
    refine ⟨Γ', x, wr, h1, ?_, h3⟩
    rw [exec, kvals_pv (xs := xs) hoc]
    exact h2
  | callv fv xs =>
    have h0 := hov fv (by simp [SOp.opds])
    simp only [execK] at h
    split at h
    · rename_i f caps hf
      rw [hf] at h0
      obtain ⟨Γ', x, wr, h1, h2, h3⟩ := callK_sound hΓ h
      refine ⟨Γ', x, wr, h1, ?_, h3⟩
      rw [exec, h0]
      simp only [KV.pv]
      rw [kvals_pv (fun x hx => hoc x (by simp [SOp.opds, hx])), KV.pvs_map, ← List.map_append]
      exact h2
    · rename_i f caps hf
      rw [hf] at h0
      obtain ⟨Γ', x, wr, h1, h2, h3⟩ := callK_sound hΓ h
      refine ⟨Γ', x, wr, h1, ?_, h3⟩
      rw [exec, h0]
      simp only [KV.pv]
      rw [kvals_pv (fun x hx => hoc x (by simp [SOp.opds, hx])), KV.pvs_map, ← List.map_append]
      exact h2
    · cases h
  | app z e kk bytes s x =>
    have h1 := hov s (by simp [SOp.opds])
    have h2 := hov x (by simp [SOp.opds])
    simp only [execK] at h
    split at h
    · rename_i T hT
      split at h
      · rename_i hk
        have hk := Nat.eq_of_beq_eq_true hk
        split at h
        · rename_i news hn
          have h3 := els_ok hn
          split at h
          · rename_i hs
            rw [hs] at h1
            cases hl : lenOk bytes news.length with
            | false => rw [hl] at h; cases h
            | true =>
              rw [hl] at h
              obtain ⟨hl1, hl2⟩ := lenOk_true hl
              obtain ⟨x0, wr0, g1, g2⟩ := appRK_ok K h
              refine pure ?_ g2
              rw [exec, h2, h3]
              simp only [news_ok T news hk K, if_true, h1, KV.pv, List.length_map]
              rw [if_pos ⟨hl1, hl2⟩]
              exact g1
          · rename_i id ver hs
            rw [hs] at h1
            split at h
            · rename_i rr hb
              obtain ⟨h4, h5⟩ := row_st hb
              split at h
              · rename_i he
                rw [Bool.and_eq_true] at he
                have he1 := Nat.eq_of_beq_eq_true he.1
                have he2 := Nat.eq_of_beq_eq_true he.2
                split at h
                · rename_i xs hc
                  have hpv : rr.xs.map (U.pv rr.T) = xs.map (U.pv T) := by
                    obtain ⟨eT, hxs⟩ := castL_some hc
                    obtain ⟨re, rk, rT, rxs⟩ := rr
                    simp only at eT hxs ⊢
                    subst eT
                    rw [hxs]
                  cases hl : lenOk bytes (xs.length + news.length) with
                  | false => rw [hl] at h; cases h
                  | true =>
                    rw [hl] at h
                    obtain ⟨hl1, hl2⟩ := lenOk_true hl
                    obtain ⟨x0, wr0, g1, g2⟩ := appRK_ok K h
                    refine pure ?_ g2
                    rw [exec, h2, h3]
                    simp only [news_ok T news hk K, if_true, h1, KV.pv]
                    rw [if_pos h4, h5]
                    simp only [hpv, List.length_map]
                    rw [if_pos ⟨he1.symm, he2.symm, hl1, hl2⟩]
                    rw [List.map_append] at g1
                    exact g1
                · cases h
              · cases h
            · cases h
          · cases h
        · cases h
      · cases h
    · cases h
  | nilck x =>
    have h1 := hov x (by simp [SOp.opds])
    simp only [execK] at h
    split at h
    · rename_i id ver o hp
      rw [hp] at h1
      split at h
      · rename_i cs hb
        obtain ⟨h2, h3⟩ := box_st hb
        refine pure ?_ h
        rw [exec, h1]
        simp only [KV.pv]
        rw [if_pos h2, h3]
        rfl
      · cases h
    · rename_i cs hp
      rw [hp] at h1
      exact pure (by rw [exec, h1]; rfl) h
    · rename_i cs hp
      rw [hp] at h1
      exact pure (by rw [exec, h1]; rfl) h
    · cases h
  | extr i x =>
    have h1 := hov x (by simp [SOp.opds])
    simp only [execK] at h
    split at h
    · rename_i cs hx
      rw [hx] at h1
      split at h
      · rename_i y hy
        refine pure ?_ h
        rw [exec, h1]
        simp only [KV.pv, KV.pvs_map, List.getElem?_map, hy, Option.map_some, Option.map_none]
      · cases h
    · cases h
  | mkf f caps =>
    refine pure ?_ h
    rw [exec, kvals_pv (xs := caps) hoc]
    simp only [KV.pv, KV.pvs_map, Option.map_none]
  | mkb f caps =>
    refine pure ?_ h
    rw [exec, kvals_pv (xs := caps) hoc]
    simp only [KV.pv, KV.pvs_map, Option.map_none]
  | eqs neg ks x y =>
    have h1 := hov x (by simp [SOp.opds])
    have h2 := hov y (by simp [SOp.opds])
    simp only [execK] at h
    split at h
    · rename_i cs ds hx hy
      rw [hx] at h1
      rw [hy] at h2
      split at h
      · rename_i b hb
        refine pure ?_ h
        rw [exec, h1, h2]
        simp only [KV.pv, KV.pvs_map, eqCsK_ok hb, Option.map_some, Option.map_none]
      · cases h
    · cases h
  | mks e kk bytes z l c =>
    have h1 := hov l (by simp [SOp.opds])
    have h2 := hov c (by simp [SOp.opds])
    simp only [execK] at h
    split at h
    · rename_i T hT
      split at h
      · rename_i hz
        rw [Bool.and_eq_true] at hz
        split at h
        · rename_i d hd
          split at h
          · rename_i _ n _ m hl hc
            rw [hl] at h1
            rw [hc] at h2
            cases hb : (decide (n = m) && decide (0 ≤ n) && lenOk bytes n.toNat) with
            | false => rw [hb] at h; cases h
            | true =>
              rw [hb] at h
              simp only [Bool.and_eq_true, decide_eq_true_eq] at hb
              obtain ⟨⟨h3, h4⟩, h5⟩ := hb
              obtain ⟨h5, h6⟩ := lenOk_true h5
              refine pure ?_ h
              have h7 := (cells_nz (K.dec_ok _ _ _ _ hd)).1
              rw [ofcs_pv S hz.2] at h7
              rw [exec, h1, h2]
              simp only [KV.pv]
              rw [if_pos ⟨h3, h4, h5, h6⟩, h7]
              simp only [Option.map_some, objpv, KObj.pv, KCont.pv, List.map_replicate]
              rfl
          · cases h
        · cases h
      · cases h
    · cases h
  | slc kk x lo hi =>
    have h1 := hov x (by simp [SOp.opds])
    have hi1 : ∀ (y : Opd) (d n : Int), y ∈ (SOp.slc kk x lo hi).opds → intK S (some y) d = some n → ∃ kd, y.val S.st = .int kd n := by
      intro y d n ho hn
      have := hov y ho
      simp only [intK] at hn
      split at hn
      · rename_i kd _ hy; rw [hy] at this; injection hn with hn; subst hn; exact ⟨kd, this⟩
      · cases hn
    simp only [execK] at h
    split at h
    · rename_i T xs hx
      rw [hx] at h1
      split at h
      · rename_i hk
        have hk := Nat.eq_of_beq_eq_true hk
        split at h
        · rename_i l hh hl hhi
          cases hs : slcOk l hh xs.length with
          | false => rw [hs] at h; cases h
          | true =>
            rw [hs] at h
            refine pure ?_ h
            simp only [slcOk, Bool.and_eq_true, decide_eq_true_eq] at hs
            obtain ⟨⟨h4, h5⟩, h6⟩ := hs
            have h7 : (xs.map (U.pv T)).all (fun e => e.length == kk) = true := List.all_eq_true.2 fun u hu => by
              obtain ⟨v, _, rfl⟩ := List.mem_map.1 hu
              rw [K.len, hk]; simp
            unfold exec
            simp only [h1, KV.pv, List.length_map, h7, if_true]
            have fin : ∀ (l hh : Int), 0 ≤ l ∧ l ≤ hh ∧ hh ≤ (xs.length : Int) → (if 0 ≤ l ∧ l ≤ hh ∧ hh ≤ (xs.length : Int) then some (PV.sl (((xs.map (U.pv T)).take hh.toNat).drop l.toNat), (none : Option (Nat × AObj))) else none) = some (PV.sl (((xs.take hh.toNat).drop l.toNat).map (U.pv T)), Option.map objpv (none : Option (Nat × KObj U))) := fun l hh hc => by
              rw [if_pos hc]
              simp only [List.map_take, List.map_drop, Option.map_none]
            cases lo with
            | none =>
              injection hl with hl
              subst hl
              cases hi with
              | none => injection hhi with hhi; subst hhi; exact fin _ _ ⟨h4, h5, h6⟩
              | some y => obtain ⟨kd, hy⟩ := hi1 y _ _ (by simp [SOp.opds]) hhi; simp only [hy]; exact fin _ _ ⟨h4, h5, h6⟩
            | some z =>
              obtain ⟨kz, hz⟩ := hi1 z _ _ (by simp [SOp.opds]) hl
              cases hi with
              | none => injection hhi with hhi; subst hhi; simp only [hz]; exact fin _ _ ⟨h4, h5, h6⟩
              | some y => obtain ⟨kd, hy⟩ := hi1 y _ _ (by simp [SOp.opds]) hhi; simp only [hz, hy]; exact fin _ _ ⟨h4, h5, h6⟩
        · cases h
      · cases h
    · rename_i id ver hx
      rw [hx] at h1
      split at h
      · rename_i rr hb
        obtain ⟨h3, h4⟩ := row_st hb
        split at h
        · rename_i hk
          have hk := Nat.eq_of_beq_eq_true hk
          split at h
          · rename_i l hh hl hhi
            have e1 := optI_K (hi1 := hi1) (y := lo) (fun y hy => by simp [SOp.opds, hy]) hl
            have e2 := optI_K (hi1 := hi1) (y := hi) (fun y hy => by simp [SOp.opds, hy]) hhi
            cases hs : slcOk l hh rr.xs.length with
            | false => rw [hs] at h; cases h
            | true =>
              rw [hs] at h
              refine pure ?_ h
              simp only [slcOk, Bool.and_eq_true, decide_eq_true_eq] at hs
              unfold exec
              simp only [h1, KV.pv]
              rw [if_pos h3, h4]
              simp only [List.length_map]
              rw [if_pos hk, e1, e2]
              simp only
              rw [if_pos ⟨hs.1.1, hs.1.2, hs.2⟩]
              rfl
          · cases h
        · cases h
      · cases h
    · rename_i id ver kk' lo0 n0 hx
      rw [hx] at h1
      split at h
      · rename_i rr hb
        obtain ⟨h3, h4⟩ := row_st hb
        split at h
        · rename_i hk
          rw [Bool.and_eq_true] at hk
          split at h
          · rename_i l hh hl hhi
            have e1 := optI_K (hi1 := hi1) (y := lo) (fun y hy => by simp [SOp.opds, hy]) hl
            have e2 := optI_K (hi1 := hi1) (y := hi) (fun y hy => by simp [SOp.opds, hy]) hhi
            cases hs : slcOk l hh n0 with
            | false => rw [hs] at h; cases h
            | true =>
              rw [hs] at h
              refine pure ?_ h
              simp only [slcOk, Bool.and_eq_true, decide_eq_true_eq] at hs
              unfold exec
              simp only [h1, KV.pv]
              rw [if_pos h3, h4]
              simp only
              rw [if_pos ⟨Nat.eq_of_beq_eq_true hk.1, Nat.eq_of_beq_eq_true hk.2⟩, e1, e2]
              simp only
              rw [if_pos ⟨hs.1.1, hs.1.2, hs.2⟩]
              rfl
          · cases h
        · cases h
      · cases h
    · cases h
  | minmax mx x y =>
    have h1 := hov x (by simp [SOp.opds])
    have h2 := hov y (by simp [SOp.opds])
    simp only [execK] at h
    split at h
    · rename_i hx hy
      rw [hx] at h1
      rw [hy] at h2
      split at h
      · rename_i hk
        refine pure ?_ h
        rw [exec, h1, h2]
        simp only [KV.pv, hk, if_true, Option.map_none]
      · cases h
    · cases h
  | isnil neg x =>
    have h1 := hov x (by simp [SOp.opds])
    simp only [execK] at h
    split at h
    · rename_i hx
      rw [hx] at h1
      exact pure (by unfold exec; simp only [h1, KV.pv, Option.map_none]) h
    · rename_i T xs hx
      rw [hx] at h1
      cases xs with
      | nil => exact pure (x := .ubool) (by unfold exec; simp only [h1, KV.pv, elems, List.map_nil, Option.map_none]) h
      | cons y l => exact pure (x := .bool neg) (by unfold exec; simp only [h1, KV.pv, elems, List.map_cons, Option.map_none]) h
    · cases h
end
end Go.TQ
