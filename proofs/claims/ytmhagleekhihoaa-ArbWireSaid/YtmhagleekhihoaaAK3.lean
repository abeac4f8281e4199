import Derived.Test.YtmhagleekhihoaaAK2
namespace Go.AK
open Go Go.RowKit
set_option linter.unusedVariables false
/-! Types. -/
inductive TD where
  | int (k : IntKind) | bool | str | ptr (e : Nat) | sl (e : Nat) | arr (n e : Nat) | st (fs : List (Nat × Nat)) | fn | ifc | mp (k v : Nat)
structure TI where
  d : TD
  sz : Nat
  by_ : Nat
  zero : AV
/-- A zero value, told. -/
def zeroB : AV → Value → Bool
  | .i k n, .int k' m => k == k' && n == m
  | .b x, .bool y => x == y
  | .s x, .string y => x.data.toList == y.data.toList
  | .p none, .pointer none => true
  | .sl none _ 0 0, .slice none 0 0 => true
  | .nilf, .nilFunc => true
  | .nili, .nilIface => true
  | .m none, .map none => true
  | _, _ => false
def zerosB : List AV → List Value → Bool
  | [], [] => true
  | x :: xs, v :: vs => zeroB x v && zerosB xs vs
  | _, _ => false
def zeroBB : AV → Value → Bool
  | .agg cs, .agg a => zerosB cs a.toList
  | x, v => zeroB x v
def descB (d : TD) (u : TypeDesc) : Bool :=
  match d, u with
  | .int k, .int k' => k == k'
  | .bool, .bool => true
  | .str, .string => true
  | .ptr e, .pointer e' => e == e'
  | .sl e, .slice e' => e == e'
  | .arr n e, .array n' e' => n == n' && e == e'
  | .st fs, .struct gs => fs == gs.toList.map fun f => (f.offset, f.type)
  | .fn, .func _ _ _ => true
  | .ifc, .interface _ => true
  | .mp k v, .map k' v' => k == k' && v == v'
  | _, _ => false
def tiB (P : Program) (t : Nat) (ti : TI) : Bool :=
  (match P.underlying t with | some u => descB ti.d u && (match u with | .struct gs => gs.toList.all fun f => (P.info? f.type).isSome | _ => true) | none => false) &&
  (match P.info? t with | some i => i.size == ti.sz && i.bytes == ti.by_ && (match i.zero with | some z => zeroBB ti.zero z && z.cells.size == ti.sz | none => false) | none => false)
abbrev TT := List (Nat × TI)
def tiOf : TT → Nat → Option TI
  | [], _ => none
  | (t, ti) :: r, u => if Nat.beq t u then some ti else tiOf r u
def TOK (P : Program) (T : TT) : Prop := ∀ t ti, tiOf T t = some ti → tiB P t ti = true
/-! The evaluator. -/
inductive ARes where
  | ret (v : AV)
  | pan (v : AV)
inductive AX where
  | normal
  | exit (id : Nat)
  | ret
  | panic (v : AV)
def acond (t : Bool) (A B : Prop) : Prop :=
  match t with
  | true => A
  | false => B
def getR : Regs → Nat → Option AV
  | [], _ => none
  | (t, v) :: r, u => if Nat.beq t u then some v else getR r u
def ofConst0 : Value → Option AV
  | .bool x => some (.b x)
  | .int k n => some (.i k n)
  | .string x => some (.s x)
  | .pointer none => some (.p none)
  | .slice none 0 0 => some (.sl none 0 0 0)
  | .map none => some (.m none)
  | .nilFunc => some .nilf
  | .nilIface => some .nili
  | _ => none
def ofConsts : List Value → Option (List AV)
  | [] => some []
  | v :: vs => match ofConst0 v with
    | some x => match ofConsts vs with
      | some xs => some (x :: xs)
      | none => none
    | none => none
def ofConst : Value → Option AV
  | .agg a => match ofConsts a.toList with
    | some xs => some (.agg xs)
    | none => none
  | v => ofConst0 v
def evalK (r : Regs) (o : Operand) (K : AV → Prop) : Prop :=
  match o with
  | .tmp t => match getR r t with
    | some v => K v
    | none => False
  | .const v => match ofConst v with
    | some v => K v
    | none => False
  | .func f => K (.fn (.func f) [] [])
  | .global _ => False
def evalsK (r : Regs) : List Operand → (List AV → Prop) → Prop
  | [], K => K []
  | o :: os, K => evalK r o fun v => evalsK r os fun vs => K (v :: vs)
def tiK (T : TT) (t : Nat) (K : TI → Prop) : Prop :=
  match tiOf T t with
  | some ti => K ti
  | none => False
def atT (tys : Array Nat) (i : Nat) (K : Nat → Prop) : Prop :=
  match tys[i]? with
  | some t => K t
  | none => False
def aget (xs : List AV) (i : Nat) (K : AV → Prop) : Prop :=
  match xs[i]? with
  | some v => K v
  | none => False
def acells (xs : List AV) (o : Nat) : Nat → (List AV → Prop) → Prop
  | 0, K => K []
  | n + 1, K => aget xs o fun v => acells xs (o + 1) n fun vs => K (v :: vs)
def ablk (H : Heap) (j : Nat) (K : List AV → Prop) : Prop :=
  match H[j]? with
  | some (.c cs) => K cs
  | _ => False
def isAggD : TD → Bool
  | .st _ => true
  | .arr _ _ => true
  | _ => false
def aload (ti : TI) (cs : List AV) (o : Nat) (K : AV → Prop) : Prop :=
  acond (isAggD ti.d) (acells cs o ti.sz fun vs => K (.agg vs)) (aget cs o K)
def setCells : List AV → Nat → List AV → List AV
  | cs, _, [] => cs
  | cs, o, v :: vs => setCells (cs.set o v) (o + 1) vs
def ones : List AV → Bool
  | [] => true
  | x :: xs => x.one && ones xs
/-- A slice's cells. -/
def arow (H : Heap) (z : Nat) (v : AV) (K : List AV → Nat → Prop) : Prop :=
  match v with
  | .sl none _ _ _ => K [] 0
  | .sl (some (j, o)) z' n _ => acond (Nat.beq z' z) (ablk H j fun cs => o + n * z ≤ cs.length ∧ K ((cs.drop o).take (n * z)) n) False
  | .rs cs o z' n => acond (Nat.beq z' z) (o + n * z ≤ cs.length ∧ K ((cs.drop o).take (n * z)) n) False
  | _ => False
def aint (op : BinOp) (k : IntKind) (a b : Int) (K : AV → Prop) : Prop :=
  match op with
  | .add => K (.i k (k.wrap (a + b)))
  | .sub => K (.i k (k.wrap (a - b)))
  | .mul => K (.i k (k.wrap (a * b)))
  | .quo => b ≠ 0 ∧ K (.i k (k.wrap (a.tdiv b)))
  | .rem => b ≠ 0 ∧ K (.i k (a.tmod b))
  | .and => K (.i k (bits .and k a b))
  | .or => K (.i k (bits .or k a b))
  | .xor => K (.i k (bits .xor k a b))
  | .andNot => K (.i k (bits .andNot k a b))
  | .eql => K (.b (a == b))
  | .neq => K (.b (a != b))
  | .lss => K (.b (decide (a < b)))
  | .leq => K (.b (decide (a ≤ b)))
  | .gtr => K (.b (decide (a > b)))
  | .geq => K (.b (decide (a ≥ b)))
  | .shl => False
  | .shr => False
/-- Two that are asked whether they are one. -/
def aeq (ck : Bool) (d : TD) (v u : AV) (K : Bool → Prop) : Prop :=
  match d, v, u with
  | .bool, .b x, .b y => K (x == y)
  | .ptr _, .p none, .p a => K a.isNone
  | .ptr _, .p (some _), .p none => K false
  | .ptr _, .rp _ _, .p none => K false
  | .ptr _, .p none, .rp _ _ => K false
  | .sl _, .sl none _ _ _, .sl a _ _ _ => K a.isNone
  | .sl _, .sl (some _) _ _ _, .sl none _ _ _ => K false
  | .fn, .nilf, .nilf => K true
  | .fn, .nilf, .fn _ _ _ => K false
  | .fn, .fn _ _ _, .nilf => K false
  | .ifc, .nili, .ifc _ _ => K false
  | .ifc, .ifc _ _, .nili => K false
  | .ifc, .nili, .nili => acond ck (K true) False
  | _, _, _ => False
def isConstB : Operand → Bool
  | .const _ => true
  | _ => false
def eqS (v u : AV) (K : Bool → Prop) : Prop :=
  match v, u with
  | .i k a, .i k' b => acond (decide (k = k')) (K (a == b)) False
  | .b a, .b b => K (a == b)
  | _, _ => False
def eqL : List AV → List AV → (Bool → Prop) → Prop
  | [], [], K => K true
  | x :: xs, y :: ys, K => eqS x y fun t => eqL xs ys fun u => K (t && u)
  | _, _, _ => False
/-- Types of which two are one if their cells are: told by the seat. -/
def flatEq (P : Program) (t : Nat) (n : Nat) : Prop :=
  ∀ (xs ys : Array Value) (w : World) (r : Bool), xs.size = n → ys.size = n →
    (∀ (i : Nat) v u, xs.toList[i]? = some v → ys.toList[i]? = some u → (∃ k a b, v = .int k a ∧ u = .int k b) ∨ (∃ a b, v = .bool a ∧ u = .bool b)) →
    (r = true ↔ ∀ (i : Nat) v u, xs.toList[i]? = some v → ys.toList[i]? = some u → v = u) →
    (Op.equalIn 10000 t (.agg xs) (.agg ys)).run P w = .ok r w ∧ ∀ op x y, (eqGuard op t x y (.agg xs) (.agg ys)).run P w = .ok () w
section
variable (P : Program) (T : TT) (ip : Bool)
def abin (ck : Bool) (op : BinOp) (t : Nat) (v u : AV) (K : AV → Prop) : Prop :=
  match v, u with
  | .i k a, .i k' b => match op with
    | .shl => 0 ≤ b ∧ K (.i k (k.wrap (a * 2 ^ min b.toNat k.bits)))
    | .shr => 0 ≤ b ∧ K (.i k (a.fdiv (2 ^ min b.toNat k.bits)))
    | op => acond (decide (k = k')) (aint op k a b K) False
  | .s x, .s y => match op with
    | .add => x.size + y.size ≤ 9223372036854775807 ∧ K (.s (x ++ y))
    | .eql => K (.b (x.toList == y.toList))
    | .neq => K (.b (!(x.toList == y.toList)))
    | .lss => K (.b (Op.bytesLess x.toList y.toList))
    | _ => False
  | .agg xs, .agg ys => match op with
    | .eql => flatEq P t xs.length ∧ eqL xs ys fun t => K (.b t)
    | .neq => flatEq P t xs.length ∧ eqL xs ys fun t => K (.b (!t))
    | _ => False
  | v, u => match op with
    | .eql => tiK T t fun ti => aeq ck ti.d v u fun t => K (.b t)
    | .neq => tiK T t fun ti => aeq ck ti.d v u fun t => K (.b (!t))
    | _ => False
def abounds (lo hi : Option AV) (n c : Nat) (k : Nat → Nat → Prop) : Prop :=
  match lo, hi with
  | none, none => k 0 n
  | some (.i _ l), none => (0 ≤ l ∧ l ≤ n) ∧ k l.toNat n
  | none, some (.i _ h) => (0 ≤ h ∧ h ≤ c) ∧ k 0 h.toNat
  | some (.i _ l), some (.i _ h) => (0 ≤ l ∧ l ≤ h ∧ h ≤ c) ∧ k l.toNat h.toNat
  | _, _ => False
def aslice (ti : TI) (sz : Nat) (v : AV) (lo : Option AV) (hi : Option AV) (K : AV → Prop) : Prop :=
  match ti.d, v with
  | .str, .s x => abounds lo hi x.size x.size fun l h => K (.s (x.extract l h))
  | .sl e, .sl (some (j, o)) z n c => acond (Nat.beq z sz) (abounds lo hi n c fun l h => K (.sl (some (j, o + l * z)) z (h - l) (c - l))) False
  | .sl e, .sl none z n c => abounds lo hi 0 0 fun l h => K (.sl none z 0 0)
  | .sl e, .rs cs o z n => acond (Nat.beq z sz) (abounds lo hi n n fun l h => K (.rs cs (o + l * z) z (h - l))) False
  | .arr n e, .rp cs o => acond (Nat.beq sz 1) (abounds lo hi n n fun l h => K (.rs cs (o + l) 1 (h - l))) False
  | _, _ => False
def aopt (r : Regs) (o : Option Operand) (K : Option AV → Prop) : Prop :=
  match o with
  | none => K none
  | some x => evalK r x fun v => K (some v)
def aindex (ti te : TI) (v : AV) (i : Int) (K : AV → Prop) : Prop :=
  match ti.d, v with
  | .sl e, .sl (some (j, o)) z n _ => acond (Nat.beq z te.sz) ((0 ≤ i ∧ i < n) ∧ K (.p (some (j, o + i.toNat * z)))) False
  | .sl e, .rs cs o z n => acond (Nat.beq z te.sz) ((0 ≤ i ∧ i < n) ∧ K (.rp cs (o + i.toNat * z))) False
  | .arr n e, .p (some (j, o)) => (0 ≤ i ∧ i < n) ∧ K (.p (some (j, o + i.toNat * te.sz)))
  | .arr n e, .rp cs o => (0 ≤ i ∧ i < n) ∧ K (.rp cs (o + i.toNat * te.sz))
  | _, _ => False
def elemT : TD → Nat
  | .sl e => e
  | .arr _ e => e
  | _ => 0
/-- A place in what is built: field number n. -/
def aplace (fs : List (Nat × Nat)) (te : Nat → Option TI) (n : Nat) : Option (Nat × Nat) :=
  match fs[n]? with
  | some (o, t) => match te t with
    | some x => some (o, x.sz)
    | none => none
  | none => none
def alist : List AV → (List AV → Prop) → Prop
  | [], K => K []
  | x :: xs, K => alist xs fun ys => K (x :: ys)
theorem alist_eq : ∀ (xs : List AV) (K : List AV → Prop), alist xs K = K xs
  | [], K => rfl
  | x :: xs, K => by unfold alist; rw [alist_eq xs]
def afill (place : Nat → Option (Nat × Nat)) (K : List AV → Prop) : List AV → List (Nat × AV) → Prop
  | cs, [] => K cs
  | cs, (n, v) :: rest => match place n with
    | some (o, z) => acond (v.kn && (Nat.beq v.cells.length z && Nat.ble (o + z) cs.length)) (alist (setCells cs o v.cells) fun cs => afill place K cs rest) False
    | none => False
structure ACall (f : Nat) (args : List AV) (H : Heap) (K : ARes → Heap → Prop) : Prop where
  there : ∃ fn, P.funcs[f]? = some fn ∧ (fn.name == "runtime.NumGoroutine") = false ∧ fn.body.isNone = false
  run : ∀ (E : Env) (w : World) (vs : Array Value), Rel E H w → VRL E args vs.toList →
    Calls P f vs w fun e w' => ∃ r E' H', Ext E w E' w' ∧ Rel E' H' w' ∧ K r H' ∧
      match r, e with
      | .ret x, .returned v => VR E' x v
      | .pan x, .panicked chain => ∃ v, chain = [{ v, recovered := false }] ∧ VR E' x v
      | _, _ => False
def aappend (te : TI) (H : Heap) (s x : AV) (K : AV → Heap → Prop) : Prop :=
  arow H te.sz s fun olds n => arow H te.sz x fun news m =>
  match s with
  | .sl none _ _ _ => acond (Nat.beq m 0) (K (.sl none te.sz 0 0) H)
      (ones news = true ∧ m * 2 * te.by_ ≤ 281474976710656 ∧ m * 2 ≤ 9223372036854775807 ∧ ∀ c, m ≤ c → K (.sl (some (H.length, 0)) te.sz m c) (H ++ [.c news]))
  | .sl (some (j, o)) _ _ c => match ip with
    | true => ones news = true ∧ n + m ≤ c ∧ ablk H j fun cs => o + (n + m) * te.sz ≤ cs.length ∧ K (.sl (some (j, o)) te.sz (n + m) c) (H.set j (.c (setCells cs (o + n * te.sz) news)))
    | false => ones news = true ∧ (n + m) * 2 * te.by_ ≤ 281474976710656 ∧ (n + m) * 2 ≤ 9223372036854775807 ∧
        ∀ c, n + m ≤ c → K (.sl (some (H.length, 0)) te.sz (n + m) c) (H.set j .dead ++ [.c (olds ++ news)])
  | _ => False
/-- Operations that look at no memory that may be written, and change none. -/
def asil (r : Regs) (o : Op) (K : AV → Prop) : Prop :=
  match o with
  | .move x => evalK r x K
  | .assign x => evalK r x K
  | .pick c a b => evalK r c fun v => match v with
    | .b t => acond t (evalK r a K) (evalK r b K)
    | _ => False
  | .nilCheck x => evalK r x fun v => match v with
    | .p (some a) => K (.p (some a))
    | .rp cs o => K (.rp cs o)
    | .fn (.func f) fs us => K (.fn (.func f) fs us)
    | .ifc t u => K (.ifc t u)
    | _ => False
  | .build t ps => tiK T t fun ti => evalsK r (ps.toList.map (·.2)) fun vs => match ti.d with
    | .st fs => afill (aplace fs (tiOf T)) (fun cs => K (.agg cs)) ti.zero.cells ((ps.toList.map (·.1)).zip vs)
    | .arr _ e => tiK T e fun te => afill (fun n => some (n * te.sz, te.sz)) (fun cs => K (.agg cs)) ti.zero.cells ((ps.toList.map (·.1)).zip vs)
    | _ => False
  | .load t x => evalK r x fun v => tiK T t fun ti => match v with
    | .rp cs o => aload ti cs o K
    | _ => False
  | .binOp op t x y _ => evalK r x fun v => evalK r y fun u => abin P T (isConstB x || isConstB y) op t v u K
  | .unOp op _ x => evalK r x fun v => match op, v with
    | .not, .b t => K (.b (!t))
    | .neg, .i k n => K (.i k (k.wrap (0 - n)))
    | _, _ => False
  | .convert s d x => evalK r x fun v => tiK T s fun ts => tiK T d fun td => match td.d, v with
    | .int k, .i _ n => K (.i k (k.wrap n))
    | .str, .s x => K (.s x)
    | _, _ => False
  | .makeFunc f fs cap => evalsK r fs.toList fun vs => evalsK r cap.toList fun us => K (.fn f vs us)
  | .slice t x lo hi mx => tiK T t fun ti => evalK r x fun v => aopt r lo fun l => aopt r hi fun h => match mx with
    | none => match ti.d with
      | .arr n e => tiK T e fun te => aslice ti te.sz v l h K
      | .sl e => tiK T e fun te => aslice ti te.sz v l h K
      | _ => aslice ti 0 v l h K
    | some _ => False
  | .fieldAddr s x f => evalK r x fun v => tiK T s fun ti => match ti.d with
    | .st fs => match fs[f]? with
      | some (off, ft) => tiK T ft fun tf => acond (Nat.beq tf.sz 0) False (match v with
        | .p (some (j, o)) => K (.p (some (j, o + off)))
        | .rp cs o => K (.rp cs (o + off))
        | _ => False)
      | none => False
    | _ => False
  | .field s x f => evalK r x fun v => tiK T s fun ti => match ti.d with
    | .st fs => match fs[f]? with
      | some (off, ft) => tiK T ft fun tf => match v with
        | .agg cs => aload tf cs off K
        | _ => False
      | none => False
    | _ => False
  | .indexAddr t x y => tiK T t fun ti => evalK r x fun v => evalK r y fun u => match u with
    | .i _ n => tiK T (elemT ti.d) fun te => aindex ti te v n K
    | _ => False
  | .index t x y => tiK T t fun ti => evalK r x fun v => evalK r y fun u => match u with
    | .i _ n => match ti.d, v with
      | .str, .s x => (0 ≤ n ∧ n < x.size) ∧ K (.i .u8 (((x.data.toList.getD n.toNat 0).toNat : Nat) : Int))
      | .arr m e, .agg cs => tiK T e fun te => (0 ≤ n ∧ n < m) ∧ aload te cs (n.toNat * te.sz) K
      | _, _ => False
    | _ => False
  | .extract x n => evalK r x fun v => match v with
    | .tup vs => aget vs n K
    | _ => False
  | .makeInterface t x => tiK T t fun ti => match ti.d with
    | .ifc => False
    | _ => evalK r x fun v => K (.ifc t v)
  | .call c => match c.callee with
    | .builtin b => evalsK r c.args.toList fun vs => match b with
      | .len => atT c.argTypes 0 fun t0 => tiK T t0 fun ti => match ti.d, vs with
        | .sl _, [.sl _ _ n _] => K (.i .i64 n)
        | .sl _, [.rs _ _ _ n] => K (.i .i64 n)
        | .str, [.s x] => K (.i .i64 x.size)
        | .arr n _, [_] => K (.i .i64 n)
        | _, _ => False
      | .cap => atT c.argTypes 0 fun t0 => tiK T t0 fun ti => match ti.d, vs with
        | .sl _, [.sl _ _ _ c] => K (.i .i64 c)
        | _, _ => False
      | .max => match vs with
        | [.i k a, .i _ b] => K (.i k (if b > a then b else a))
        | _ => False
      | .min => match vs with
        | [.i k a, .i _ b] => K (.i k (if b < a then b else a))
        | _ => False
      | _ => False
    | _ => False
  | _ => False
/-- 'append(s, make([]T, k)...)' -/
def aappz (te : TI) (H : Heap) (s : AV) (k : Int) (K : AV → Heap → Prop) : Prop :=
  arow H te.sz s fun olds n => (0 ≤ k ∧ (n + k.toNat) * 2 * te.by_ ≤ 281474976710656 ∧ (n + k.toNat) * 2 ≤ 9223372036854775807) ∧
  match s with
  | .sl none _ _ _ => (k = 0 → K (.sl none te.sz 0 0) H) ∧
      (0 < k → ∀ c, k.toNat ≤ c → K (.sl (some (H.length, 0)) te.sz k.toNat c) (H ++ [.c (List.replicate k.toNat te.zero.cells).flatten]))
  | .sl (some (j, o)) _ _ c => acond (ones te.zero.cells) (∀ c, n + k.toNat ≤ c → K (.sl (some (H.length, 0)) te.sz (n + k.toNat) c) (H.set j .dead ++ [.c (olds ++ (List.replicate k.toNat te.zero.cells).flatten)])) False
  | _ => False
def acall (r : Regs) (H : Heap) (c : Call) (K : ARes → Heap → Prop) : Prop :=
  match c.callee with
  | .value f => evalK r f fun fv => evalsK r c.args.toList fun vs => match fv with
    | .fn (.func g) fs cap => ACall P g (fs ++ vs ++ cap) H K
    | _ => False
  | .invoke _ _ => False
  | .builtin b => match b with
    | .append => evalsK r c.args.toList fun vs => atT c.argTypes 0 fun t0 => tiK T t0 fun ti => match ti.d, vs with
      | .sl e, [s, x] => atT c.argTypes 1 fun t1 => tiK T t1 fun tx => tiK T e fun te => match tx.d with
        | .sl _ => aappend ip te H s x fun v H' => K (.ret v) H'
        | .int _ => match x with
          | .i _ k => aappz te H s k fun v H' => K (.ret v) H'
          | _ => False
        | _ => False
      | _, _ => False
    | .copy => evalsK r c.args.toList fun vs => atT c.argTypes 0 fun t0 => tiK T t0 fun ti => match ti.d, vs with
      | .sl e, [d, x] => tiK T e fun te => arow H te.sz x fun news m => match d with
        | .sl (some (j, o)) z n _ => acond (Nat.beq z te.sz) (ones news = true ∧ ablk H j fun cs => o + n * z ≤ cs.length ∧
            K (.ret (.i .i64 (min m n : Nat))) (H.set j (.c (setCells cs o (news.take (min m n * z)))))) False
        | _ => False
      | _, _ => False
    | .clear => evalsK r c.args.toList fun vs => atT c.argTypes 0 fun t0 => tiK T t0 fun ti => match ti.d, vs with
      | .sl e, [.sl (some (j, o)) z n _] => tiK T e fun te => acond (Nat.beq z te.sz && ones te.zero.cells) (ablk H j fun cs => o + n * z ≤ cs.length ∧
            K (.ret (.tup [])) (H.set j (.c (setCells cs o (List.replicate n te.zero.cells).flatten)))) False
      | _, _ => False
    | _ => asil P T r (.call c) fun v => K (.ret v) H
def aop (r : Regs) (H : Heap) (o : Op) (K : ARes → Heap → Prop) : Prop :=
  match o with
  | .box _ x => evalK r x fun v => acond (ones v.cells) (K (.ret (.p (some (H.length, 0)))) (H ++ [.c v.cells])) False
  | .alloc e => tiK T e fun ti => acond (ones ti.zero.cells) (K (.ret (.p (some (H.length, 0)))) (H ++ [.c ti.zero.cells])) False
  | .buildSlice t n ps => tiK T t fun ti => match ti.d with
    | .sl e => tiK T e fun te => evalsK r (ps.toList.map (·.2)) fun vs => acond (Nat.ble (n * te.sz) 16777216)
        (afill (fun i => some (i * te.sz, te.sz)) (fun cs => acond (ones cs) (K (.ret (.sl (some (H.length, 0)) te.sz n n)) (H ++ [.c cs])) False) (List.replicate n te.zero.cells).flatten ((ps.toList.map (·.1)).zip vs)) False
    | _ => False
  | .load t x => evalK r x fun v => tiK T t fun ti => match v with
    | .p (some (j, o)) => ablk H j fun cs => aload ti cs o fun v => K (.ret v) H
    | .rp cs o => aload ti cs o fun v => K (.ret v) H
    | _ => False
  | .store t x y => evalK r x fun v => evalK r y fun u => tiK T t fun ti => match v with
    | .p (some (j, o)) => acond (ones u.cells && Nat.beq u.cells.length ti.sz) (ablk H j fun cs => o + ti.sz ≤ cs.length ∧ K (.ret (.tup [])) (H.set j (.c (setCells cs o u.cells)))) False
    | _ => False
  | .makeSlice t l c => tiK T t fun ti => evalK r l fun lv => evalK r c fun cv => match ti.d, lv, cv with
    | .sl e, .i _ l, .i _ c => tiK T e fun te => (0 ≤ l ∧ l ≤ c ∧ (te.by_ : Int) * c ≤ 281474976710656 ∧ c ≤ 9223372036854775807) ∧
        K (.ret (.sl (some (H.length, 0)) te.sz l.toNat c.toNat)) (H ++ [.c (List.replicate c.toNat te.zero.cells).flatten])
    | _, _, _ => False
  | .panic x => evalK r x fun v => match v with
    | .ifc _ _ => K (.pan v) H
    | _ => False
  | .slice t x lo hi mx => tiK T t fun ti => evalK r x fun v => match v with
    | .p (some (j, o)) => match ti.d, mx with
      | .arr n e, none => tiK T e fun te => acond (Nat.beq te.sz 1) (ablk H j fun cs => o + n ≤ cs.length ∧ aopt r lo fun l => aopt r hi fun h => abounds l h n n fun l h => K (.ret (.sl (some (j, o + l)) 1 (h - l) (n - l))) H) False
      | _, _ => False
    | _ => asil P T r (.slice t x lo hi mx) fun v => K (.ret v) H
  | .call c => acall P T ip r H c K
  | o => asil P T r o fun v => K (.ret v) H
def putD (nt : Nat) (d : Option Nat) (v : AV) (r : Regs) (K : Regs → Prop) : Prop :=
  match d with
  | some d => acond (Nat.blt d nt) (K ((d, v) :: r)) False
  | none => K r
/-- One operation, as it is guarded. -/
def astep (nt : Nat) (all : Array Oper) (r : Regs) (H : Heap) (o : Oper) (K : ARes → Regs → Heap → Prop) : Prop :=
  let run := aop P T ip r H o.op fun v H' => match v with
    | .ret v => putD nt o.dst v r fun r' => K (.ret v) r' H'
    | .pan v => K (.pan v) r H'
  let skip := putD nt o.dst (.tup []) r fun r' => K (.ret (.tup [])) r' H
  match o.guard with
  | none => run
  | some (j, want) => match (all[j]?).bind (·.dst) with
    | none => False
    | some d => match getR r d with
      | some (.b t) => match want with
        | true => acond t run skip
        | false => acond t skip run
      | some (.tup []) => skip
      | _ => False
def aops (nt : Nat) (all : Array Oper) (K : AX → Regs → Heap → Prop) : List Oper → Regs → Heap → Prop
  | [], r, H => K .normal r H
  | o :: os, r, H => astep P T ip nt all r H o fun v r' H' => match v with
    | .ret _ => aops nt all K os r' H'
    | .pan v => K (.panic v) r' H'
end
end Go.AK
