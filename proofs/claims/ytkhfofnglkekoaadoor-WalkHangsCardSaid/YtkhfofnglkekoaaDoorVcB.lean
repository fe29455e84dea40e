/- Own verification-condition framework, part B: the symbolic state and the function that turns code into a formula. Conditions: none. -/
import Derived.Test.YtkhfofnglkekoaaDoorVcA
namespace Go.Proofs.YtkhfofnglkekoaaDoor

/-- What is known of a temporary: its value; the address of a local variable's cell; nothing. -/
inductive SV where
  | val (v : Value)
  | loc (k o : Nat)
  | any

abbrev Env := Nat → SV
abbrev Loc := Nat → Option (List Value × TypeId)

def upd {α : Type} (f : Nat → α) (d : Nat) (x : α) : Nat → α := fun i => cond (Nat.beq i d) x (f i)

/-- The kinds of one cell. -/
inductive Sh where
  | int (k : IntKind)
  | bool
  | str
  | ptr
  | slice
  | map
  | fn

def Sh.ex : Sh → (Value → Prop) → Prop
  | .int k, K => ∃ n : Int, K (.int k n)
  | .bool, K => ∃ b : Bool, K (.bool b)
  | .str, K => ∃ s : ByteArray, K (.string s)
  | .ptr, K => ∃ p : Option Addr, K (.pointer p)
  | .slice, K => ∃ (a : Option Addr) (l c : Nat), K (.slice a l c)
  | .map, K => ∃ r : Option Nat, K (.map r)
  | .fn, K => ∃ (f : Fn) (a b : Array Value), K (.func f a b)

def exs : List Sh → (List Value → Prop) → Prop
  | [], K => K []
  | s :: r, K => s.ex fun v => exs r fun vs => K (v :: vs)

/-- What a type is, as far as it is needed. -/
inductive Kd where
  | int (k : IntKind)
  | bool
  | str
  | ptr
  | fn
  | map (key elem : TypeId)
  | slice (elem : TypeId)
  | array (len : Nat) (elem : TypeId)
  | struct (offs : List Nat) (types : List TypeId)
  | tuple (ts : List TypeId)
  | other

structure TI where
  kind : Kd
  size : Nat
  bytes : Nat
  sh : List Sh
  zero : List Value

def Kd.agg : Kd → Bool
  | .struct _ _ => true
  | .array _ _ => true
  | _ => false

def Kd.val : Kd → Bool
  | .tuple _ => false
  | .other => false
  | _ => true

/-- The program's side: types, which temporaries may hold a local's address, which functions have bodies, which struct types may be compared. -/
structure Cx where
  P : Program
  T : Nat → TI
  ow : List (Nat × Nat)
  fns : Nat → Bool
  eqt : Nat → Bool
  ext : Nat → Nat

def lookN : List (Nat × Nat) → Nat → Option Nat
  | [], _ => none
  | (a, b) :: r, i => cond (Nat.beq a i) (some b) (lookN r i)

def Cx.own (cx : Cx) (t : Nat) : Option Nat := lookN cx.ow t

def notLoc : SV → Bool
  | .loc _ _ => false
  | _ => true

def mkV (agg : Bool) (vs : List Value) : Value := if agg then .agg vs.toArray else vs.headD undef

def vEx1 (t : TI) (K : Value → Prop) : Prop :=
  match t.kind.agg with
  | true => exs t.sh fun vs => K (.agg vs.toArray)
  | false => exs t.sh fun vs => K (vs.headD undef)

def vExs (T : Nat → TI) : List TypeId → (List Value → Prop) → Prop
  | [], K => K []
  | t :: r, K => vEx1 (T t) fun v => vExs T r fun vs => K (v :: vs)

def vEx (T : Nat → TI) (t : TypeId) (K : Value → Prop) : Prop :=
  match (T t).kind with
  | .tuple ts => vExs T ts fun vs => K (.tuple vs.toArray)
  | _ => vEx1 (T t) K

/-- Cells in the heap. -/
def At (h : Hp) (a : Addr) (vs : List Value) : Prop :=
  a.spot = none ∧ ∃ c e fr, h a.block = some (.cells c e fr) ∧ ∀ i, i < vs.length → c[a.off + i]? = vs[i]?

/-- Bytes in the heap. -/
def Bytes (h : Hp) (a : Option Addr) (l : Nat) (s : ByteArray) : Prop :=
  s.size = l ∧ (l = 0 ∨ ∃ a', a = some a' ∧ At h a' (s.data.toList.map fun b => .int .u8 b.toNat))

def splice (c : List Value) (o : Nat) (vs : List Value) : List Value := c.take o ++ vs ++ c.drop (o + vs.length)

def ptrM (p : Option Addr) (F : Addr → Prop) : Prop := match p with | some a => F a | none => False

def bsplit (b : Bool) (F G : Prop) : Prop := match b with | true => F | false => G

def I64 (n : Int) : Prop := -9223372036854775808 ≤ n ∧ n ≤ 9223372036854775807

def arithK (k : IntKind) (n : Int) (K : Value → Prop) : Prop :=
  match k with
  | .i64 => I64 n ∧ K (.int .i64 n)
  | k => K (.int k (k.wrap n))

def strLt (a b : ByteArray) : Bool := Op.bytesLess a.toList b.toList

def bitsV (op : BinOp) (k : IntKind) (x y : Int) : Int :=
  match op with
  | .and => k.wrap (BitVec.ofInt k.bits x &&& BitVec.ofInt k.bits y).toNat
  | .or => k.wrap (BitVec.ofInt k.bits x ||| BitVec.ofInt k.bits y).toNat
  | .xor => k.wrap (BitVec.ofInt k.bits x ^^^ BitVec.ofInt k.bits y).toNat
  | .andNot => k.wrap (BitVec.ofInt k.bits x &&& ~~~(BitVec.ofInt k.bits y)).toNat
  | _ => 0

def intBin (op : BinOp) (k : IntKind) (m n : Int) (K : Value → Prop) : Prop :=
  match op with
  | .add => arithK k (m + n) K
  | .sub => arithK k (m - n) K
  | .mul => arithK k (m * n) K
  | .quo => n ≠ 0 ∧ arithK k (m.tdiv n) K
  | .rem => n ≠ 0 ∧ K (.int k (m.tmod n))
  | .and => K (.int k (bitsV .and k m n))
  | .or => K (.int k (bitsV .or k m n))
  | .xor => K (.int k (bitsV .xor k m n))
  | .andNot => K (.int k (bitsV .andNot k m n))
  | .eql => K (.bool (m == n))
  | .neq => K (.bool (m != n))
  | .lss => K (.bool (decide (m < n)))
  | .leq => K (.bool (decide (m ≤ n)))
  | .gtr => K (.bool (decide (m > n)))
  | .geq => K (.bool (decide (m ≥ n)))
  | _ => False

def shV (op : BinOp) (k : IntKind) (m n : Int) (K : Value → Prop) : Prop :=
  match op with
  | .shl => 0 ≤ n ∧ K (.int k (k.wrap (m * 2 ^ (min n.toNat k.bits))))
  | .shr => 0 ≤ n ∧ K (.int k (m.fdiv (2 ^ (min n.toNat k.bits))))
  | _ => False

def strBin (op : BinOp) (a b : ByteArray) (K : Value → Prop) : Prop :=
  match op with
  | .add => a.size + b.size ≤ 9223372036854775807 ∧ K (.string (a ++ b))
  | .eql => K (.bool (decide (a = b)))
  | .neq => K (.bool (!decide (a = b)))
  | .lss => K (.bool (strLt a b))
  | .leq => K (.bool (strLt a b || decide (a = b)))
  | .gtr => K (.bool (!(strLt a b || decide (a = b))))
  | .geq => K (.bool (!strLt a b))
  | _ => False

def leafEq : Value → Value → Bool
  | .int _ m, .int _ n => m == n
  | .bool a, .bool b => a == b
  | .string a, .string b => decide (a = b)
  | _, _ => false

def aggEq : List Value → List Value → Bool
  | [], [] => true
  | x :: xs, y :: ys => leafEq x y && aggEq xs ys
  | _, _ => false

def ptrEq (p q : Option Addr) (neg : Bool) (K : Bool → Prop) : Prop :=
  match q with
  | none => K (cond neg (!p.isNone) p.isNone)
  | some b => match p with
    | none => K neg
    | some a => a = b ∧ K (!neg)

def hasShs : List Sh → List Value → Bool
  | [], [] => true
  | .int k :: r, .int k' _ :: vs => (match decide (k = k') with | true => hasShs r vs | false => false)
  | .bool :: r, .bool _ :: vs => hasShs r vs
  | .str :: r, .string _ :: vs => hasShs r vs
  | _, _ => false

def binV (eqt : Nat → List Value → Bool) (kd : Kd) (op : BinOp) (t : TypeId) (x y : Value) (K : Value → Prop) : Prop :=
  match x, y with
  | .int k m, .int k' n =>
    (match op with
    | .shl => shV .shl k m n K
    | .shr => shV .shr k m n K
    | op => match decide (k = k') with | true => intBin op k m n K | false => False)
  | .string a, .string b => strBin op a b K
  | .bool a, .bool b => (match kd with | .bool => (match op with | .eql => K (.bool (a == b)) | .neq => K (.bool (!(a == b))) | _ => False) | _ => False)
  | .pointer p, .pointer q => (match kd with | .ptr => (match op with | .eql => ptrEq p q false fun b => K (.bool b) | .neq => ptrEq p q true fun b => K (.bool b) | _ => False) | _ => False)
  | .slice a _ _, .slice b _ _ => (match kd, b with | .slice _, none => (match op with | .eql => K (.bool a.isNone) | .neq => K (.bool (!a.isNone)) | _ => False) | _, _ => False)
  | .map a, .map b => (match kd, b with | .map _ _, none => (match op with | .eql => K (.bool a.isNone) | .neq => K (.bool (!a.isNone)) | _ => False) | _, _ => False)
  | .agg xs, .agg ys => (match eqt t xs.toList && eqt t ys.toList with
    | true => (match op with | .eql => K (.bool (aggEq xs.toList ys.toList)) | .neq => K (.bool (!aggEq xs.toList ys.toList)) | _ => False)
    | false => False)
  | _, _ => False

def opnd (σ : Env) : Operand → SV
  | .tmp t => σ t
  | .const v => .val v
  | .global g => .val (.pointer (some ⟨g, 0, none⟩))
  | .func f => .val (.func (.func f) #[] #[])

def vals (σ : Env) : List Operand → Option (List Value)
  | [] => some []
  | x :: r => match opnd σ x with
    | .val v => (match vals σ r with | some vs => some (v :: vs) | none => none)
    | _ => none

def parts (σ : Env) : List (Nat × Operand) → Option (List (Nat × Value))
  | [] => some []
  | (i, x) :: r => match opnd σ x with
    | .val v => (match parts σ r with | some vs => some ((i, v) :: vs) | none => none)
    | _ => none

def cellsV (agg : Bool) (v : Value) : List Value := match agg with | true => v.cells.toList | false => [v]

def leafB : Value → Bool
  | .agg _ => false
  | .tuple _ => false
  | _ => true

/-- The cells of a value of a type, if it is one. -/
def cellsO (agg : Bool) (v : Value) : Option (List Value) :=
  match agg with
  | true => (match v with | .agg cs => some cs.toList | _ => none)
  | false => (match leafB v with | true => some [v] | false => none)

/-- Values laid into a row of cells, at the places and of the types given. -/
def fillL (T : Nat → TI) (place : Nat → Option (Nat × TypeId)) : List (Nat × Value) → List Value → Option (List Value)
  | [], c => some c
  | (i, v) :: r, c => match place i with
    | none => none
    | some (off, t) =>
      (match cellsO (T t).kind.agg v with
      | some cs => (match Nat.beq cs.length (T t).size && Nat.ble (off + (T t).size) c.length with
        | true => fillL T place r (splice c off cs)
        | false => none)
      | none => none)

def structPlace (offs : List Nat) (ts : List TypeId) (i : Nat) : Option (Nat × TypeId) :=
  match offs[i]?, ts[i]? with
  | some o, some t => some (o, t)
  | _, _ => none

def arrPlace (T : Nat → TI) (e : TypeId) (n i : Nat) : Option (Nat × TypeId) :=
  match Nat.blt i n with
  | true => some (i * (T e).size, e)
  | false => none

def repl : Nat → List Value → List Value
  | 0, _ => []
  | n + 1, z => z ++ repl n z

def byteAt (s : ByteArray) (i : Int) : Int := ((s.data.toList.getD i.toNat 0).toNat : Int)

def imax (x y : Int) : Int := if y > x then y else x
def imin (x y : Int) : Int := if y < x then y else x

def foldInt (f : Int → Int → Int) (k : IntKind) : Int → List Value → Option Int
  | x, [] => some x
  | x, .int k' y :: r => match decide (k = k') with | true => foldInt f k (f x y) r | false => none
  | _, _ => none

def subSl (a : Option Addr) (lo cap : Int) (es : Nat) : Option Addr := if cap = lo then a else a.map (·.add (lo.toNat * es))

def keyEq : Value → Value → Bool
  | .int _ m, .int _ n => m == n
  | .string a, .string b => decide (a = b)
  | _, _ => false

def mfind (k : Value) : List MapEntry → Option Value
  | [] => none
  | e :: r => cond (keyEq k e.key) (some e.val) (mfind k r)

def mset (k v : Value) : List MapEntry → List MapEntry
  | [] => []
  | e :: r => cond (keyEq k e.key) (⟨k, v, e.born⟩ :: r) (e :: mset k v r)

/-- A map's entries. -/
def MapIs (h : Hp) (r : Option Nat) (es : List MapEntry) : Prop :=
  match r with
  | none => es = []
  | some b => ∃ clk, h b = some (.map es.toArray clk)

/-- Every entry's key is of the kind. -/
def keysOf (k : Kd) (es : List MapEntry) : Prop :=
  match k with
  | .int i => ∀ e ∈ es, ∃ n, e.key = .int i n
  | .str => ∀ e ∈ es, ∃ s, e.key = .string s
  | _ => False

def keyOk (k : Kd) (v : Value) : Bool :=
  match k, v with
  | .int i, .int j _ => decide (i = j)
  | .str, .string _ => true
  | _, _ => false

/-- The kind of the first argument's type. -/
def argKd (T : Nat → TI) (ts : List TypeId) : Kd := match ts with | t :: _ => (T t).kind | [] => .other

/-- What a quiet operation gives. -/
def vcQ (cx : Cx) (o : Oper) (K : SV → Loc → Prop) (σ : Env) (loc : Loc) (rd : (Hp → Prop) → Prop) : Prop :=
  match o.op with
  | .move x => K (opnd σ x) loc
  | .assign x => K (opnd σ x) loc
  | .pick c a b => (match opnd σ c with | .val (.bool t) => bsplit t (K (opnd σ a) loc) (K (opnd σ b) loc) | _ => False)
  | .alloc e => (match o.dst with
    | some d => (match (cx.ow.all fun p => !Nat.beq p.2 d || notLoc (σ p.1)) && (cx.T e).kind.val with
      | true => K (.loc d 0) (upd loc d (some ((cx.T e).zero, e)))
      | false => False)
    | none => False)
  | .box e x => (match o.dst, opnd σ x with
    | some d, .val v => (match cellsO (cx.T e).kind.agg v with
      | some cs => (match (cx.ow.all fun p => !Nat.beq p.2 d || notLoc (σ p.1)) && (Nat.beq cs.length (cx.T e).size && (cx.T e).kind.val) with
        | true => K (.loc d 0) (upd loc d (some (cs, e)))
        | false => False)
      | none => False)
    | _, _ => False)
  | .build t ps => (match parts σ ps.toList with
    | some vs => (match (cx.T t).kind with
      | .struct offs ts => (match fillL cx.T (structPlace offs ts) vs (cx.T t).zero with | some c => K (.val (.agg c.toArray)) loc | none => False)
      | .array n e => (match fillL cx.T (arrPlace cx.T e n) vs (cx.T t).zero with | some c => K (.val (.agg c.toArray)) loc | none => False)
      | _ => False)
    | none => False)
  | .load t x => (match opnd σ x with
    | .loc k o => (match loc k with
      | some (c, _) => (match Nat.ble (o + (cx.T t).size) c.length && (cx.T t).kind.val with
        | true => (match (cx.T t).kind.agg with
          | true => K (.val (.agg ((c.drop o).take (cx.T t).size).toArray)) loc
          | false => K (.val (c.getD o undef)) loc)
        | false => False)
      | none => False)
    | .val (.pointer (some a)) => (match (cx.T t).kind.val with | true => vEx1 (cx.T t) fun v => rd (fun h => At h a (cellsV (cx.T t).kind.agg v)) ∧ K (.val v) loc | false => False)
    | _ => False)
  | .store t x v => (match opnd σ x, opnd σ v with
    | .loc k o, .val v => (match loc k, cellsO (cx.T t).kind.agg v with
      | some (c, e), some cs => (match Nat.beq cs.length (cx.T t).size && (Nat.ble (o + cs.length) c.length && (cs.all leafB && (cx.T t).kind.val)) with
        | true => K (.val undef) (upd loc k (some (splice c o cs, e)))
        | false => False)
      | _, _ => False)
    | _, _ => False)
  | .nilCheck x => (match opnd σ x with
    | .loc k o => K (.loc k o) loc
    | .val (.pointer p) => ptrM p fun a => K (.val (.pointer (some a))) loc
    | .val (.func (.func f) a b) => K (.val (.func (.func f) a b)) loc
    | _ => False)
  | .binOp op t x y _ => (match opnd σ x, opnd σ y with | .val a, .val b => binV (fun t xs => cx.eqt t && hasShs (cx.T t).sh xs) (cx.T t).kind op t a b (fun v => K (.val v) loc) | _, _ => False)
  | .unOp op _ x => (match op, opnd σ x with
    | .not, .val (.bool b) => K (.val (.bool (!b))) loc
    | .neg, .val (.int k n) => arithK k (0 - n) (fun v => K (.val v) loc)
    | _, _ => False)
  | .convert s d x => (match opnd σ x with
    | .val (.int _ n) => (match (cx.T s).kind, (cx.T d).kind with | .int _, .int k => K (.val (.int k (k.wrap n))) loc | _, _ => False)
    | .val (.string s') => (match (cx.T s).kind, (cx.T d).kind with | .str, .str => K (.val (.string s')) loc | _, _ => False)
    | .val (.slice a l _) => (match (cx.T s).kind, (cx.T d).kind with
      | .slice e, .str => (match (cx.T e).kind with
        | .int .u8 => ∃ s' : ByteArray, rd (fun h => Bytes h a l s') ∧ K (.val (.string s')) loc
        | _ => False)
      | _, _ => False)
    | _ => False)
  | .makeFunc f fi ca => (match vals σ fi.toList, vals σ ca.toList with | some a, some b => K (.val (.func f a.toArray b.toArray)) loc | _, _ => False)
  | .slice t x lo hi mx => (match mx with
    | some _ => False
    | none => (match (match lo with | some l => opnd σ l | none => .val (.int .i64 0)) with
      | .val (.int _ l) => (match opnd σ x with
        | .val (.string s) => (match (cx.T t).kind with
          | .str => (match (match hi with | some r => opnd σ r | none => .val (.int .i64 s.size)) with
            | .val (.int _ r) => 0 ≤ l ∧ l ≤ r ∧ r ≤ s.size ∧ K (.val (.string (s.extract l.toNat r.toNat))) loc
            | _ => False)
          | _ => False)
        | .val (.slice a n c) => (match (cx.T t).kind with
          | .slice e => (match (match hi with | some r => opnd σ r | none => .val (.int .i64 n)) with
            | .val (.int _ r) => 0 ≤ l ∧ l ≤ r ∧ r ≤ c ∧ K (.val (.slice (subSl a l c (cx.T e).size) (r - l).toNat ((c : Int) - l).toNat)) loc
            | _ => False)
          | _ => False)
        | .val (.pointer (some a)) => (match (cx.T t).kind with
          | .array n e => (match (match hi with | some r => opnd σ r | none => .val (.int .i64 n)) with
            | .val (.int _ r) => 0 ≤ l ∧ l ≤ r ∧ r ≤ n ∧ K (.val (.slice (subSl (some a) l n (cx.T e).size) (r - l).toNat ((n : Int) - l).toNat)) loc
            | _ => False)
          | _ => False)
        | _ => False)
      | _ => False))
  | .fieldAddr s x f => (match (cx.T s).kind with
    | .struct offs _ => (match offs[f]? with
      | some off => (match opnd σ x with
        | .loc k o => K (.loc k (o + off)) loc
        | .val (.pointer (some a)) => K (.val (.pointer (some (a.add off)))) loc
        | _ => False)
      | none => False)
    | _ => False)
  | .field t x f => (match (cx.T t).kind, opnd σ x with
    | .struct offs ts, .val (.agg cs) => (match structPlace offs ts f with
      | some (off, u) => (match Nat.ble (off + (cx.T u).size) cs.toList.length with
        | true => (match (cx.T u).kind.agg with
          | true => K (.val (.agg ((cs.toList.drop off).take (cx.T u).size).toArray)) loc
          | false => K (.val (cs.toList.getD off undef)) loc)
        | false => False)
      | none => False)
    | _, _ => False)
  | .indexAddr t x i => (match opnd σ i with
    | .val (.int _ i) => (match opnd σ x with
      | .val (.slice a l _) => (match (cx.T t).kind with
        | .slice e => 0 ≤ i ∧ i < l ∧ ptrM a fun a => K (.val (.pointer (some (a.add (i.toNat * (cx.T e).size))))) loc
        | _ => False)
      | .val (.pointer (some a)) => (match (cx.T t).kind with
        | .array n e => 0 ≤ i ∧ i < n ∧ K (.val (.pointer (some (a.add (i.toNat * (cx.T e).size))))) loc
        | _ => False)
      | _ => False)
    | _ => False)
  | .index t x i => (match opnd σ i with
    | .val (.int _ i) => (match opnd σ x with
      | .val (.string s) => (match (cx.T t).kind with
        | .str => 0 ≤ i ∧ i < s.size ∧ K (.val (.int .u8 (byteAt s i))) loc
        | _ => False)
      | .val (.agg cs) => (match (cx.T t).kind with
        | .array n e => (match (cx.T e).kind.agg, (cx.T e).size with
          | false, 1 => 0 ≤ i ∧ i < n ∧ vEx1 (cx.T e) fun v => cs.toList[i.toNat]? = some v ∧ K (.val v) loc
          | _, _ => False)
        | _ => False)
      | _ => False)
    | _ => False)
  | .extract x i => (match opnd σ x with | .val (.tuple vs) => (match vs.toList[i]? with | some v => K (.val v) loc | none => False) | _ => False)
  | .lookup t m k ok => (match (cx.T t).kind, opnd σ m, opnd σ k with
    | .map kt e, .val (.map r), .val key => (match keyOk (cx.T kt).kind key with
      | true => ∃ es, rd (fun h => MapIs h r es) ∧ keysOf (cx.T kt).kind es ∧ vEx1 (cx.T e) fun v => (mfind key es).getD (mkV (cx.T e).kind.agg (cx.T e).zero) = v ∧
          K (.val (cond ok (.tuple #[v, .bool (mfind key es).isSome]) v)) loc
      | false => False)
    | _, _, _ => False)
  | .call c => (match c.callee, vals σ c.args.toList with
    | .builtin .len, some [.string s] => (match argKd cx.T c.argTypes.toList with | .str => K (.val (.int .i64 s.size)) loc | _ => False)
    | .builtin .len, some [.slice _ l _] => (match argKd cx.T c.argTypes.toList with | .slice _ => K (.val (.int .i64 l)) loc | _ => False)
    | .builtin .len, some [.map r] => (match argKd cx.T c.argTypes.toList with | .map _ _ => ∃ es, rd (fun h => MapIs h r es) ∧ K (.val (.int .i64 es.length)) loc | _ => False)
    | .builtin .cap, some [.slice _ _ k] => (match argKd cx.T c.argTypes.toList with | .slice _ => K (.val (.int .i64 k)) loc | _ => False)
    | .builtin .max, some (.int k x :: r) => (match foldInt imax k x r with | some z => K (.val (.int k z)) loc | none => False)
    | .builtin .min, some (.int k x :: r) => (match foldInt imin k x r with | some z => K (.val (.int k z)) loc | none => False)
    | _, _ => False)
  | _ => False

/-- Cells written in the heap. -/
def HSt (h : Hp) (a : Addr) (vs : List Value) (K : Hp → Prop) : Prop :=
  a.spot = none ∧ ∃ c e fr, h a.block = some (.cells c e fr) ∧ a.off + vs.length ≤ c.size ∧ (∀ i, a.off ≤ i → i < a.off + vs.length → ¬(fr.1 ≤ i ∧ i < fr.2)) ∧
    K (h.set a.block (.cells (splice c.toList a.off vs).toArray e fr))

/-- A new block. -/
def HNew (h : Hp) (o : Obj) (K : Nat → Hp → Prop) : Prop := ∀ b, h b = none → K b (h.set b o)

/-- Cells of a slice's or string's first places. -/
def SrcIs (h : Hp) (size : Nat) (x : Value) (n : Nat) (new : List Value) : Prop :=
  match x with
  | .slice a l _ => l = n ∧ new.length = n * size ∧ (match a with | none => n * size = 0 | some a => n * size = 0 ∨ At h a new)
  | .string s => s.size = n ∧ size = 1 ∧ new = s.data.toList.map fun b => .int .u8 b.toNat
  | _ => False

/-- The builtin append. -/
def HApp (t : TI) (e : TypeId) (h : Hp) (a : Option Addr) (l c : Nat) (x : Value) (K : Option Addr → Nat → Nat → Hp → Prop) : Prop :=
  ∃ (n : Nat) (new old : List Value), SrcIs h t.size x n new ∧ (new.all leafB = true) ∧ SrcIs h t.size (.slice a l c) l old ∧ t.bytes ≠ 0 ∧
    (l + n ≤ c → (match a with
      | none => n * t.size = 0 ∧ K none (l + n) c h
      | some a => if n * t.size = 0 then K (some a) (l + n) c h else HSt h (a.add (l * t.size)) new fun h' => K (some a) (l + n) c h')) ∧
    (¬ l + n ≤ c → Builtin.nextslicecap (l + n) c * t.bytes ≤ 281474976710656 ∧ ∀ cap, l + n ≤ cap → HNew h (.cells (old ++ new ++ repl (cap - (l + n)) t.zero).toArray e) fun b h' => K (some ⟨b, 0, none⟩) (l + n) cap h')

/-- How much the builtin copy copies, out of which cells. -/
def CopySrc (h : Hp) (size : Nat) (x : Value) (l n : Nat) (new : List Value) : Prop :=
  match x with
  | .slice b m c => n = Nat.min m l ∧ SrcIs h size (.slice b n c) n new
  | .string s => n = Nat.min s.size l ∧ SrcIs h size (.string (s.extract 0 n)) n new
  | _ => False

def HCopy (t : TI) (h : Hp) (a : Option Addr) (l : Nat) (x : Value) (K : Nat → Hp → Prop) : Prop :=
  ∃ (n : Nat) (new : List Value), CopySrc h t.size x l n new ∧ (new.all leafB = true) ∧
    (match a with
    | none => K n h
    | some a => if n * t.size = 0 then K n h else HSt h a new fun h' => K n h')

def HClear (t : TI) (h : Hp) (a : Option Addr) (l : Nat) (K : Hp → Prop) : Prop :=
  match a with
  | none => K h
  | some a => if l = 0 then K h else HSt h a (repl l t.zero) K

/-- A map's entry set. -/
def HMap (k : Kd) (h : Hp) (r : Option Nat) (key v : Value) (K : Hp → Prop) : Prop :=
  ∃ (b : Nat) (es : List MapEntry) (clk : Nat), r = some b ∧ h b = some (.map es.toArray clk) ∧ keysOf k es ∧
    ((mfind key es).isSome = true → K (h.set b (.map (mset key v es).toArray clk))) ∧
    ((mfind key es).isSome = false → K (h.set b (.map (es ++ [MapEntry.mk key v clk]).toArray (clk + 1))))

/-- A mark that a row of bytes is a text's. -/
def HMark (h : Hp) (a : Option Addr) (K : Hp → Prop) : Prop :=
  ∃ b c e lo hi, a = some b ∧ h b.block = some (.cells c e (lo, hi)) ∧ K (h.set b.block (.cells c e (if lo == hi then (c.size, c.size + 1) else (min lo c.size, max hi (c.size + 1)))))

/-- The next letter of a string that is ranged over. -/
def HNext (h : Hp) (b : Nat) (K : Nat → Int → Hp → Prop) (Z : Hp → Prop) : Prop :=
  ∃ s pos, h b = some (.stringIter s pos) ∧ (pos < s.size → K pos (Utf8.decode s pos).1 (h.set b (.stringIter s (pos + (Utf8.decode s pos).2)))) ∧ (¬ pos < s.size → Z h)

/-- Three functions without a body that the model knows: how often a byte stands in a text; where first; how two texts compare. -/
def cntB (s : ByteArray) (c : Int) : Int := s.foldl (fun (n : Int) x => if x == c.toNat.toUInt8 then n + 1 else n) ((0 : Nat) : Int)
def idxB (s : ByteArray) (c : Int) : Int := match (List.range s.size).find? fun i => s[i]! == c.toNat.toUInt8 with | some i => (i : Int) | none => -1
def extV (e : Nat) (args : List Value) (K : Value → Prop) : Prop :=
  match e, args with
  | 1, [.string s, .int .u8 c] => K (.int .i64 (cntB s c))
  | 2, [.string s, .int .u8 c] => K (.int .i64 (idxB s c))
  | 3, [.string a, .string b] => K (.int .i64 (Extern.BytealgCompare.cmp a b))
  | _, _ => False

def fnsM (fns : Nat → Bool) (f : Nat) (X : Prop) : Prop := match fns f with | true => X | false => False
def fnM (f : Fn) (X : Nat → Prop) : Prop := match f with | .func f => X f | _ => False

/-- Is the operation one that acts on memory (beyond the function's own locals)? -/
def effB (cx : Cx) (o : Oper) : Bool :=
  match o.op with
  | .call c => (match c.callee with | .builtin .len => false | .builtin .cap => false | .builtin .max => false | .builtin .min => false | _ => true)
  | .box _ _ => (match o.dst with | some d => (match cx.own d with | some k => !Nat.beq k d | none => true) | none => true)
  | .buildSlice _ _ _ => true
  | .makeSlice _ _ _ => true
  | .makeMap _ _ => true
  | .mapUpdate _ _ _ _ => true
  | .range _ _ => true
  | .next _ _ => true
  | .alloc _ => (match o.dst with | some d => (match cx.own d with | some k => !Nat.beq k d | none => true) | none => true)
  | .store _ a _ => (match a with | .tmp t => (match cx.own t with | some _ => false | none => true) | _ => true)
  | .convert _ d _ => (match (cx.T d).kind with | .slice _ => true | _ => false)
  | _ => false

def extN (cx : Cx) (f : Operand) : Nat := match f with | .func g => cx.ext g | _ => 0

/-- What an operation on memory does. -/
def vcE (cx : Cx) (o : Oper) (K : Value → Hp → Prop) (σ : Env) (h : Hp) : Prop :=
  match o.op with
  | .call c => (match c.callee with
    | .value f => (match extN cx f, vals σ c.args.toList with
      | 0, some args => (match opnd σ f with
        | .val (.func g fi ca) => fnM g fun f => fnsM cx.fns f (match o.dst with
          | none => FnH cx.P f (fi.toList ++ args ++ ca.toList).toArray h fun _ h' => K undef h'
          | some _ => FnH cx.P f (fi.toList ++ args ++ ca.toList).toArray h fun v h' => vEx cx.T o.type fun u => v = u ∧ K u h')
        | _ => False)
      | e, some args => extV e args fun v => K v h
      | _, none => False)
    | .builtin .append => (match vals σ c.args.toList with
      | some [.slice a l k, x] => (match c.argTypes.toList with
        | [t, u] => (match (cx.T t).kind, (cx.T u).kind with
          | .slice e, .str => HApp (cx.T e) e h a l k x fun a l k h' => K (.slice a l k) h'
          | .slice e, .slice _ => HApp (cx.T e) e h a l k x fun a l k h' => K (.slice a l k) h'
          | _, _ => False)
        | _ => False)
      | _ => False)
    | .builtin .copy => (match vals σ c.args.toList with
      | some [.slice a l _, x] => (match c.argTypes.toList with
        | t :: _ => (match (cx.T t).kind with
          | .slice e => HCopy (cx.T e) h a l x fun n h' => K (.int .i64 n) h'
          | _ => False)
        | _ => False)
      | _ => False)
    | .builtin .clear => (match vals σ c.args.toList with
      | some [.slice a l _] => (match c.argTypes.toList with
        | t :: _ => (match (cx.T t).kind with
          | .slice e => HClear (cx.T e) h a l fun h' => K (.tuple #[]) h'
          | _ => False)
        | _ => False)
      | _ => False)
    | _ => False)
  | .box e x => (match opnd σ x with
    | .val v => (match cellsO (cx.T e).kind.agg v with
      | some cs => HNew h (.cells cs.toArray e) fun b h' => K (.pointer (some ⟨b, 0, none⟩)) h'
      | none => False)
    | _ => False)
  | .alloc e => (match (cx.T e).kind.val with | true => HNew h (.cells (cx.T e).zero.toArray e) fun b h' => K (.pointer (some ⟨b, 0, none⟩)) h' | false => False)
  | .buildSlice t n ps => (match parts σ ps.toList, (cx.T t).kind with
    | some vs, .slice e => (match (match Nat.ble (n * (cx.T e).size) 16777216 with | true => fillL cx.T (arrPlace cx.T e n) vs (repl n (cx.T e).zero) | false => none) with
      | some c => HNew h (.cells c.toArray e) fun b h' => K (.slice (some ⟨b, 0, none⟩) n n) h'
      | none => False)
    | _, _ => False)
  | .store t x v => (match opnd σ x, opnd σ v with
    | .val (.pointer (some a)), .val v => (match cellsO (cx.T t).kind.agg v with
      | some cs => (match Nat.beq cs.length (cx.T t).size && (cs.all leafB && (cx.T t).kind.val) with
        | true => HSt h a cs fun h' => K undef h'
        | false => False)
      | none => False)
    | _, _ => False)
  | .makeSlice t l c => (match opnd σ l, opnd σ c, (cx.T t).kind with
    | .val (.int _ l), .val (.int _ c), .slice e => 0 ≤ l ∧ l ≤ c ∧ ((cx.T e).bytes : Int) * c ≤ 281474976710656 ∧ (cx.T e).bytes ≠ 0 ∧
        HNew h (.cells (repl c.toNat (cx.T e).zero).toArray e) fun b h' => K (.slice (some ⟨b, 0, none⟩) l.toNat c.toNat) h'
    | _, _, _ => False)
  | .makeMap _ r => (match r with | none => HNew h (.map #[] 0) fun b h' => K (.map (some b)) h' | some _ => False)
  | .mapUpdate t m k v => (match (cx.T t).kind, opnd σ m, opnd σ k, opnd σ v with
    | .map kt _, .val (.map r), .val key, .val v => (match keyOk (cx.T kt).kind key with
      | true => HMap (cx.T kt).kind h r key v fun h' => K undef h'
      | false => False)
    | _, _, _, _ => False)
  | .convert s d x => (match opnd σ x with
    | .val (.string s') => (match (cx.T s).kind, (cx.T d).kind with
      | .str, .slice e => (match (cx.T e).kind with
        | .int .u8 => ∀ cap : Nat, s'.size ≤ cap → HNew h (.cells ((s'.data.toList.map fun b => Value.int .u8 b.toNat) ++ List.replicate (cap - s'.size) (Value.int .u8 0)).toArray e (cap, cap + 1)) fun b h' =>
            K (.slice (some ⟨b, 0, none⟩) s'.size cap) h'
        | _ => False)
      | _, _ => False)
    | .val (.slice a l c) => (match Nat.beq s d, (cx.T d).kind with
      | true, .slice e => (match (cx.T e).kind with
        | .int .u8 => HMark h a fun h' => K (.slice a l c) h'
        | _ => False)
      | _, _ => False)
    | _ => False)
  | .range t x => (match (cx.T t).kind, opnd σ x with
    | .str, .val (.string s) => HNew h (.stringIter s 0) fun b h' => K (.pointer (some ⟨b, 0, none⟩)) h'
    | _, _ => False)
  | .next it isStr => (match opnd σ it, isStr with
    | .val (.pointer (some ⟨b, 0, _⟩)), true => HNext h b (fun pos c h' => K (.tuple #[.bool true, .int .i64 pos, .int .i32 c]) h') (fun h' => K (.tuple #[.bool false]) h')
    | _, _ => False)
  | _ => False

/-- How code ends. -/
inductive Ex where
  | normal
  | ret
  | exit (id : Nat)

abbrev Kont := Ex → Env → Loc → Hp → Prop

def Kseq (k : Env → Loc → Hp → Prop) (K : Kont) : Kont
  | .normal => k
  | e => K e

def Kblk (id : Nat) (K : Kont) : Kont
  | .exit i => cond (Nat.beq i id) (K .normal) (K (.exit i))
  | e => K e

def put (cx : Cx) (σ : Env) (d : Option Nat) (x : SV) : Env :=
  match d with
  | none => σ
  | some d => upd σ d (match x with
    | .loc k o => (match cx.own d with | some k' => cond (Nat.beq k k') (.loc k o) .any | none => .any)
    | x => x)

/-- Memory as it is read: now; or as long as S holds. -/
def rdM (m : Option (Hp → Prop)) (h : Hp) (φ : Hp → Prop) : Prop := match m with | none => φ h | some S => ∀ g, S g → φ g
def aft (m : Option (Hp → Prop)) (h : Hp) (F : Prop) : Prop := match m with | none => F | some S => S h ∧ F

def gtmp (all : List Oper) (j : Nat) : Option Nat := match all[j]? with | some o => o.dst | none => none

def vcRun (cx : Cx) (m : Option (Hp → Prop)) (o : Oper) (k : Env → Loc → Hp → Prop) (σ : Env) (loc : Loc) (h : Hp) : Prop :=
  match effB cx o with
  | true => vcE cx o (fun v h' => aft m h' (k (put cx σ o.dst (.val v)) loc h')) σ h
  | false => vcQ cx o (fun sv loc' => k (put cx σ o.dst sv) loc' h) σ loc (rdM m h)

def vcOps (cx : Cx) (m : Option (Hp → Prop)) (all : List Oper) : List Oper → (Env → Loc → Hp → Prop) → Env → Loc → Hp → Prop
  | [], K, σ, loc, h => K σ loc h
  | o :: r, K, σ, loc, h =>
    match o.guard with
    | none => vcRun cx m o (vcOps cx m all r K) σ loc h
    | some (j, want) => (match gtmp all j with
      | none => False
      | some d => (match σ d with
        | .val (.bool t) => (match want with
          | true => bsplit t (vcRun cx m o (vcOps cx m all r K) (upd σ d (.val (.bool true))) loc h) (vcOps cx m all r K (put cx (upd σ d (.val (.bool false))) o.dst (.val undef)) loc h)
          | false => bsplit t (vcOps cx m all r K (put cx (upd σ d (.val (.bool true))) o.dst (.val undef)) loc h) (vcRun cx m o (vcOps cx m all r K) (upd σ d (.val (.bool false))) loc h))
        | .val (.tuple _) => vcOps cx m all r K (put cx σ o.dst (.val undef)) loc h
        | _ => False))

/-- Which operations come ahead of which, in every order: a mask an operation. -/
def mask1 (acc : List Nat) : List Edge → Nat → Nat
  | [], s => s
  | e :: r, s => mask1 acc r (cond (Region.binds .any e) (s ||| 2 ^ e.on ||| acc.getD e.on 0) s)

def masks : List Oper → List Nat → List Nat
  | [], acc => acc
  | o :: r, acc => masks r (acc ++ [mask1 acc o.after.toList 0])

/-- The local that an operation touches, and whether it writes it. -/
def locAcc (cx : Cx) (o : Oper) : Option (Nat × Bool) :=
  match o.op with
  | .load _ (.tmp t) => (match cx.own t with | some k => some (k, false) | none => none)
  | .store _ (.tmp t) _ => (match cx.own t with | some k => some (k, true) | none => none)
  | .alloc _ => (match o.dst with | some d => some (d, true) | none => none)
  | .box _ _ => (match o.dst with | some d => some (d, true) | none => none)
  | _ => none

def locApart (cx : Cx) (x y : Oper) : Bool :=
  match locAcc cx x, locAcc cx y with
  | some (k, a), some (l, b) => !Nat.beq k l || (!a && !b)
  | _, _ => true

/-- Does the operation look at all that may be a local's address (a new local does)? -/
def isAlloc (o : Oper) : Bool := match o.op with | .alloc _ => true | .box _ _ => true | _ => false
def ownDst (cx : Cx) (o a : Oper) : Bool := match o.dst, a.dst with | some d, some k => cx.ow.any fun p => Nat.beq p.1 d && Nat.beq p.2 k | _, _ => false
def allocApart (cx : Cx) (x y : Oper) : Bool := (!isAlloc x || !ownDst cx y x) && (!isAlloc y || !ownDst cx x y)

def indep (cx : Cx) (all : List Oper) (x y : Oper) : Bool :=
  !(effB cx x && effB cx y) && x.apart all.toArray y && locApart cx x y && allocApart cx x y

def backOk : List Oper → Nat → Bool
  | [], _ => true
  | o :: r, i => (o.after.toList.all fun e => !Region.binds .any e || Nat.blt e.on i) && backOk r (i + 1)

def drawPair (cx : Cx) (all : List Oper) (mj : Nat) (y : Oper) : List Oper → Nat → Bool
  | [], _ => true
  | x :: r, i => (mj.testBit i || indep cx all x y) && drawPair cx all mj y r (i + 1)

/-- Every two operations that may come in either order are independent ('pre': those ahead). -/
def drawOkGo (cx : Cx) (all : List Oper) (ms : List Nat) : List Oper → List Oper → Nat → Bool
  | _, [], _ => true
  | pre, o :: r, j => drawPair cx all (ms.getD j 0) o pre 0 && drawOkGo cx all ms (pre ++ [o]) r (j + 1)

def noSel (o : Oper) : Bool := match o.op with | .select _ _ => false | _ => true

def drawOk (cx : Cx) (all : List Oper) : Bool := backOk all 0 && all.all noSel && drawOkGo cx all (masks all []) [] all 0

/-- Where a region falls into parts: all ahead of the place come ahead of all behind it, in every order. -/
def barAt (ms : List Nat) (n p : Nat) : Bool := (List.range' p (n - p)).all fun i => (List.range p).all fun j => (ms.getD i 0).testBit j
def cutsOf (all : List Oper) : List Nat := ((List.range' 1 (all.length - 1)).filter (barAt (masks all []) all.length)) ++ [all.length]

def vcBlks (cx : Cx) (all : List Oper) : List Nat → Nat → (Env → Loc → Hp → Prop) → Env → Loc → Hp → Prop
  | [], _, K, σ, loc, h => K σ loc h
  | hi :: cs, lo, K, σ, loc, h =>
    match Nat.beq hi (lo + 1) || !((all.drop lo).take (hi - lo)).any (effB cx) with
    | true => vcOps cx none all ((all.drop lo).take (hi - lo)) (vcBlks cx all cs hi K) σ loc h
    | false => ∃ S : Hp → Prop, S h ∧ vcOps cx (some S) all ((all.drop lo).take (hi - lo)) (vcBlks cx all cs hi K) σ loc h

/-- What stays and what is named anew where ways meet: kept temporaries and locals; temporaries and locals with the kinds of their cells. -/
structure Mod where
  keep : List Nat
  keepL : List Nat
  slots : List (Nat × Bool × List Sh)
  locs : List (Nat × TypeId × List Sh)

inductive Ann where
  | none
  | seq (a b : Ann)
  | join (m : Mod) (a b : Ann)
  | cond (a b : Ann)
  | block (a : Ann)
  | loop (m : Mod) (a : Ann)
  | stop

def stopOr (an : Ann) (X : Prop) : Prop := match an with | .stop => False | _ => X

def Ann.l : Ann → Ann
  | .seq a _ => a
  | .cond a _ => a
  | .block a => a
  | _ => .none
def Ann.r : Ann → Ann
  | .seq _ b => b
  | .cond _ b => b
  | _ => .none

def Sh.arr : Sh → Type → Type
  | .int _, X => Int → X
  | .bool, X => Bool → X
  | .str, X => ByteArray → X
  | .ptr, X => Option Addr → X
  | .slice, X => Option Addr → Nat → Nat → X
  | .map, X => Option Nat → X
  | .fn, X => Fn → Array Value → Array Value → X

def Prd : List Sh → Type
  | [] => Hp → Prop
  | s :: r => s.arr (Prd r)

/-- The predicate at these values. -/
def Prd.app : (l : List Sh) → Prd l → List SV → Hp → Prop
  | [], J, vs, h => (match vs with | [] => (show Hp → Prop from J) h | _ => False)
  | .int k :: r, J, vs, h => (match vs with | .val (.int k' n) :: vs => (match decide (k = k') with | true => Prd.app r ((show Int → Prd r from J) n) vs h | false => False) | _ => False)
  | .bool :: r, J, vs, h => (match vs with | .val (.bool b) :: vs => Prd.app r ((show Bool → Prd r from J) b) vs h | _ => False)
  | .str :: r, J, vs, h => (match vs with | .val (.string b) :: vs => Prd.app r ((show ByteArray → Prd r from J) b) vs h | _ => False)
  | .ptr :: r, J, vs, h => (match vs with | .val (.pointer b) :: vs => Prd.app r ((show Option Addr → Prd r from J) b) vs h | _ => False)
  | .slice :: r, J, vs, h => (match vs with | .val (.slice a l c) :: vs => Prd.app r ((show Option Addr → Nat → Nat → Prd r from J) a l c) vs h | _ => False)
  | .map :: r, J, vs, h => (match vs with | .val (.map b) :: vs => Prd.app r ((show Option Nat → Prd r from J) b) vs h | _ => False)
  | .fn :: r, J, vs, h => (match vs with | .val (.func f a b) :: vs => Prd.app r ((show Fn → Array Value → Array Value → Prd r from J) f a b) vs h | _ => False)

/-- For all values of these kinds at which the predicate holds. -/
def Prd.all : (l : List Sh) → Prd l → (List Value → Hp → Prop) → Prop
  | [], J, F => ∀ h, (show Hp → Prop from J) h → F [] h
  | .int k :: r, J, F => ∀ n : Int, Prd.all r ((show Int → Prd r from J) n) fun vs => F (.int k n :: vs)
  | .bool :: r, J, F => ∀ b : Bool, Prd.all r ((show Bool → Prd r from J) b) fun vs => F (.bool b :: vs)
  | .str :: r, J, F => ∀ b : ByteArray, Prd.all r ((show ByteArray → Prd r from J) b) fun vs => F (.string b :: vs)
  | .ptr :: r, J, F => ∀ b : Option Addr, Prd.all r ((show Option Addr → Prd r from J) b) fun vs => F (.pointer b :: vs)
  | .slice :: r, J, F => ∀ (a : Option Addr) (l c : Nat), Prd.all r ((show Option Addr → Nat → Nat → Prd r from J) a l c) fun vs => F (.slice a l c :: vs)
  | .map :: r, J, F => ∀ b : Option Nat, Prd.all r ((show Option Nat → Prd r from J) b) fun vs => F (.map b :: vs)
  | .fn :: r, J, F => ∀ (f : Fn) (a b : Array Value), Prd.all r ((show Fn → Array Value → Array Value → Prd r from J) f a b) fun vs => F (.func f a b :: vs)

/-- For all values of these kinds: what F says, the predicate says. -/
def Prd.from : (l : List Sh) → Prd l → (List Value → Hp → Prop) → Prop
  | [], J, F => ∀ h, F [] h → (show Hp → Prop from J) h
  | .int k :: r, J, F => ∀ n : Int, Prd.from r ((show Int → Prd r from J) n) fun vs => F (.int k n :: vs)
  | .bool :: r, J, F => ∀ b : Bool, Prd.from r ((show Bool → Prd r from J) b) fun vs => F (.bool b :: vs)
  | .str :: r, J, F => ∀ b : ByteArray, Prd.from r ((show ByteArray → Prd r from J) b) fun vs => F (.string b :: vs)
  | .ptr :: r, J, F => ∀ b : Option Addr, Prd.from r ((show Option Addr → Prd r from J) b) fun vs => F (.pointer b :: vs)
  | .slice :: r, J, F => ∀ (a : Option Addr) (l c : Nat), Prd.from r ((show Option Addr → Nat → Nat → Prd r from J) a l c) fun vs => F (.slice a l c :: vs)
  | .map :: r, J, F => ∀ b : Option Nat, Prd.from r ((show Option Nat → Prd r from J) b) fun vs => F (.map b :: vs)
  | .fn :: r, J, F => ∀ (f : Fn) (a b : Array Value), Prd.from r ((show Fn → Array Value → Array Value → Prd r from J) f a b) fun vs => F (.func f a b :: vs)

def memN (i : Nat) : List Nat → Bool
  | [] => false
  | k :: r => cond (Nat.beq i k) true (memN i r)

def Mod.shs (m : Mod) : List Sh := m.slots.flatMap (·.2.2) ++ m.locs.flatMap (·.2.2)

def locGet (σ : Env) (loc : Loc) (p : Nat × TypeId × List Sh) : List SV :=
  match σ p.1, loc p.1 with
  | .loc k 0, some (c, t) => cond (Nat.beq k p.1 && Nat.beq t p.2.1 && Nat.beq c.length p.2.2.length) (c.map .val) [.any]
  | _, _ => [.any]

def slotGet (σ : Env) (p : Nat × Bool × List Sh) : List SV :=
  match p.2.1 with
  | true => (match σ p.1 with | .val (.agg cs) => cond (Nat.beq cs.toList.length p.2.2.length) (cs.toList.map .val) [.any] | _ => [.any])
  | false => (match p.2.2 with | [_] => [σ p.1] | _ => [.any])

def Mod.get (m : Mod) (σ : Env) (loc : Loc) : List SV := m.slots.flatMap (slotGet σ) ++ m.locs.flatMap (locGet σ loc)

def envS : List (Nat × Bool × List Sh) → List Value → Env → Env
  | (d, g, l) :: r, vs, f => fun i => cond (Nat.beq i d) (.val (match g with | true => .agg (vs.take l.length).toArray | false => vs.headD undef)) (envS r (vs.drop l.length) f i)
  | [], _, f => f

def locS : List (Nat × TypeId × List Sh) → List Value → Loc → Loc
  | (k, t, l) :: r, vs, f => fun i => cond (Nat.beq i k) (some (vs.take l.length, t)) (locS r (vs.drop l.length) f i)
  | [], _, f => f

def Mod.env (m : Mod) (σ : Env) (vs : List Value) : Env :=
  envS m.slots vs fun i => cond (memN i m.keep) (σ i) (cond (memN i (m.locs.map (·.1))) (.loc i 0) .any)

def Mod.locv (m : Mod) (loc : Loc) (vs : List Value) : Loc :=
  locS m.locs (vs.drop (m.slots.flatMap (·.2.2)).length) fun i => cond (memN i m.keepL) (loc i) none

/-- May the code write the temporary? the local's cells? -/
def wrO (i : Nat) (o : Oper) : Bool := match o.dst with | some d => Nat.beq d i | none => false
def stO (cx : Cx) (k : Nat) (o : Oper) : Bool :=
  match o.op with
  | .store _ a _ => (match a with | .tmp t => (match cx.own t with | some l => Nat.beq l k | none => false) | _ => false)
  | .alloc _ => (match o.dst with | some d => Nat.beq d k | none => false)
  | .box _ _ => (match o.dst with | some d => Nat.beq d k | none => false)
  | _ => false

def wrC (i : Nat) : Code → Bool
  | .region _ ops _ => ops.toList.any (wrO i)
  | .seq a b => wrC i a || wrC i b
  | .cond _ a b => wrC i a || wrC i b
  | .block _ a => wrC i a
  | .loop a => wrC i a
  | .rangeFunc _ _ _ _ => true
  | .scope a => wrC i a
  | _ => false

def stC (cx : Cx) (k : Nat) : Code → Bool
  | .region _ ops _ => ops.toList.any (stO cx k)
  | .seq a b => stC cx k a || stC cx k b
  | .cond _ a b => stC cx k a || stC cx k b
  | .block _ a => stC cx k a
  | .loop a => stC cx k a
  | .rangeFunc _ _ _ _ => true
  | .scope a => stC cx k a
  | _ => false

def Mod.ok (cx : Cx) (m : Mod) (c : Code) : Bool := (m.keep.all fun i => !wrC i c && (match cx.own i with | some k => !wrC k c | none => true)) && (m.keepL.all fun k => !stC cx k c && memN k m.keep) && (m.locs.all fun p => match cx.own p.1 with | some k => Nat.beq k p.1 | none => false)

/-- THE FORMULA OF CODE. -/
def vc (cx : Cx) : Code → Ann → Kont → Env → Loc → Hp → Prop
  | .skip, _, K, σ, loc, h => K .normal σ loc h
  | .region _ ops draw, _, K, σ, loc, h =>
    (match draw with
    | false => vcOps cx none ops.toList ops.toList (K .normal) σ loc h
    | true => (match drawOk cx ops.toList with
      | false => False
      | true => (match ops.toList.any (effB cx) with
        | false => vcOps cx none ops.toList ops.toList (K .normal) σ loc h
        | true => vcBlks cx ops.toList (cutsOf ops.toList) 0 (K .normal) σ loc h)))
  | .seq a b, an, K, σ, loc, h =>
    (match an with
    | .join m x y => (match m.ok cx a with
      | true => ∀ J : Prd m.shs, Prd.from m.shs J (fun vs h' => vc cx b y K (m.env σ vs) (m.locv loc vs) h') →
          vc cx a x (Kseq (fun σ' loc' h' => Prd.app m.shs J (m.get σ' loc') h') K) σ loc h
      | false => False)
    | an => vc cx a an.l (Kseq (fun σ' loc' h' => stopOr an.r (vc cx b an.r K σ' loc' h')) K) σ loc h)
  | .cond c a b, an, K, σ, loc, h => (match opnd σ c with
    | .val (.bool t) => bsplit t (stopOr an.l (vc cx a an.l K σ loc h)) (stopOr an.r (vc cx b an.r K σ loc h))
    | _ => False)
  | .block id c, an, K, σ, loc, h => vc cx c an.l (Kblk id K) σ loc h
  | .loop c, an, K, σ, loc, h =>
    (match an with
    | .loop m x => (match m.ok cx c with
      | true => ∃ I : Nat → Prd m.shs, (∃ n, Prd.app m.shs (I n) (m.get σ loc) h) ∧
          ∀ n, Prd.all m.shs (I n) fun vs h' => vc cx c x (Kseq (fun σ' loc' h'' => ∃ k, k < n ∧ Prd.app m.shs (I k) (m.get σ' loc') h'') K) (m.env σ vs) (m.locv loc vs) h'
      | false => False)
    | _ => False)
  | .exit id, _, K, σ, loc, h => K (.exit id) σ loc h
  | .ret, _, K, σ, loc, h => K .ret σ loc h
  | _, _, _, _, _, _ => False

def resOf (cx : Cx) (σ : Env) (loc : Loc) : List ResultVar → Option (List Value)
  | [] => some []
  | .tmp t :: r => (match σ t with
    | .val v => (match resOf cx σ loc r with | some vs => some (v :: vs) | none => none)
    | _ => none)
  | .cell a t :: r => (match σ a with
    | .loc k 0 => (match loc k with
      | some (c, _) => (match Nat.beq c.length (cx.T t).size && (cx.T t).kind.val, resOf cx σ loc r with
        | true, some vs => some ((match (cx.T t).kind.agg with | true => .agg c.toArray | false => c.headD undef) :: vs)
        | _, _ => none)
      | none => none)
    | _ => none)

def Kret (cx : Cx) (rs : List ResultVar) (R : Value → Hp → Prop) : Kont := fun ex σ loc h =>
  match ex with
  | .exit _ => False
  | _ => (match resOf cx σ loc rs with
    | some [v] => R v h
    | some vs => R (.tuple vs.toArray) h
    | none => False)

def envOf (args : List Value) : Env := fun i => match args[i]? with | some v => .val v | none => .any

def dstOk (n : Nat) : Code → Bool
  | .region _ ops _ => ops.toList.all fun o => match o.dst with | some d => Nat.blt d n | none => true
  | .seq a b => dstOk n a && dstOk n b
  | .cond _ a b => dstOk n a && dstOk n b
  | .block _ a => dstOk n a
  | .loop a => dstOk n a
  | .scope a => dstOk n a
  | _ => true

/-- THE FORMULA OF A CALL. -/
def vcFn (cx : Cx) (fn : Func) (an : Ann) (args : List Value) (h : Hp) (R : Value → Hp → Prop) : Prop :=
  match fn.body with
  | some c => (match dstOk fn.ntmps c && Nat.ble args.length fn.ntmps with
    | true => vc cx c an (Kret cx fn.results.toList R) (envOf args) (fun _ => none) h
    | false => False)
  | none => False
attribute [irreducible] vcFn

end Go.Proofs.YtkhfofnglkekoaaDoor
