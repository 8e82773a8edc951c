/- What an abstract run of the model's code does: plain values in slots, objects for what a call owns in memory. Definitions alone. -/
import Derived.Orders
import Derived.Laws.AppendOwn
import Derived.Below
namespace Go.Proofs.Ytmmadcccjicdcaa.E
set_option linter.unusedVariables false

/-- Kinds of elements. -/
inductive El where
  | int (k : IntKind)
  | str

abbrev El.T : El → Type
  | .int _ => Int
  | .str => List UInt8

def El.enc : (E : El) → E.T → Value
  | .int k, n => .int k n
  | .str, s => .string ⟨List.toArray s⟩

def El.zero : (E : El) → E.T
  | .int _ => (0 : Int)
  | .str => ([] : List UInt8)

/-- Values that lean on shared memory alone: tables of whole numbers (k a row), lists of lists; and places in them. -/
inductive Sh where
  | tab (k : Nat) (ns : List Int)
  | eat (k : Nat) (ns : List Int) (i : Int)
  | rows (e : TypeId) (xss : List (List Int))
  | ear (e : TypeId) (xss : List (List Int)) (i : Int)

/-- Simple values: what a slot or a cell holds. -/
inductive SV where
  | mark
  | sh (l : Bool) (x : Sh)
  | undef
  | nil
  | int (k : IntKind) (n : Int)
  | bool (b : Bool)
  | str (s : List UInt8)
  | sl (l : Bool) (e : TypeId) (E : El) (xs : List E.T)
  | slo (j : Nat)
  | ea (ow : Option Nat) (e : TypeId) (E : El) (xs : List E.T) (i : Int)
  | ref (j o : Nat)
  | clo (f : Nat) (caps : List Nat)

def El.av : (E : El) → E.T → SV
  | .int k, n => .int k n
  | .str, s => .str s

inductive AV where
  | s (v : SV)
  | tup (vs : List SV)
  | agg (vs : List SV)

inductive Ob where
  | cells (ty : TypeId) (cs : List SV)
  | arr (e : TypeId) (E : El) (xs : List E.T)

def look {α : Type} : List (Nat × α) → Nat → Option α
  | [], _ => none
  | (a, b) :: r, k => cond (Nat.beq a k) (some b) (look r k)

structure St where
  sl : List (Nat × AV)
  H : List (Nat × Ob)

def St.get (s : St) (t : Nat) : AV := match look s.sl t with | some v => v | none => .s .undef
def St.put (s : St) (t : Nat) (v : AV) : St := ⟨(t, v) :: s.sl, s.H⟩

/-- What a call's engine is told of the program's types. -/
structure Env where
  P : Program
  slice : TypeId → Option (TypeId × El)
  one : TypeId → Bool
  intk : TypeId → Option IntKind
  isStr : TypeId → Bool
  isBool : TypeId → Bool
  field : TypeId → Nat → Option Nat
  zero : TypeId → Option SV
  agg : TypeId → Option (List SV)
  arr : TypeId → Option Nat
  tab : TypeId → Option (TypeId × Nat)
  rows : TypeId → Option (TypeId × TypeId)

def Env.argTab (V : Env) : List TypeId → Bool
  | [t] => (V.tab t).isSome
  | _ => false
def Env.argRows (V : Env) : List TypeId → Bool
  | [t] => (V.rows t).isSome
  | _ => false
def Env.argStr (V : Env) : List TypeId → Bool
  | [t] => V.isStr t
  | _ => false
def Env.argSl (V : Env) : List TypeId → Bool
  | [t] => (V.slice t).isSome
  | _ => false

def constV : Value → SV
  | .int k n => .int k n
  | .bool b => .bool b
  | .string ⟨⟨l⟩⟩ => .str l
  | .slice none 0 0 => .nil
  | _ => .undef

def ev (s : St) : Operand → AV
  | .tmp t => s.get t
  | .const v => .s (constV v)
  | .func f => .s (.clo f [])
  | .global _ => .s .undef

def evs (s : St) (x : Operand) : SV := match ev s x with | .s v => v | _ => .undef

/-- The ids of objects whose memory a value's meaning leans on (`heapDep`), and whose place (`hdDep`). -/
def SV.heapDep (j : Nat) : SV → Bool
  | .ea (some k) .. => Nat.beq k j
  | _ => false

def memb (j : Nat) : List Nat → Bool
  | [] => false
  | a :: r => cond (Nat.beq a j) true (memb j r)

def SV.hdDep (j : Nat) : SV → Bool
  | .slo k => Nat.beq k j
  | .ea (some k) .. => Nat.beq k j
  | .ref k _ => Nat.beq k j
  | .clo _ caps => memb j caps
  | _ => false

def SV.killH (j : Nat) (v : SV) : SV := cond (v.heapDep j) .undef v
def SV.killD (j : Nat) (v : SV) : SV := cond (v.hdDep j) .undef v

def AV.map (f : SV → SV) : AV → AV
  | .s v => .s (f v)
  | .tup vs => .tup (vs.map f)
  | .agg vs => .agg (vs.map f)

def Ob.map (f : SV → SV) : Ob → Ob
  | .cells ty cs => .cells ty (cs.map f)
  | .arr e E xs => .arr e E xs

def mapSl (f : SV → SV) : List (Nat × AV) → List (Nat × AV)
  | [] => []
  | (t, v) :: r => (t, v.map f) :: mapSl f r

def mapH (f : SV → SV) : List (Nat × Ob) → List (Nat × Ob)
  | [] => []
  | (t, v) :: r => (t, v.map f) :: mapH f r

def St.map (f : SV → SV) (s : St) : St := ⟨mapSl f s.sl, mapH f s.H⟩

def St.setH (s : St) (j : Nat) (ob : Ob) : St := ⟨s.sl, (j, ob) :: s.H⟩

/-- A new object under a name: whatever spoke of an elder one of that name is forgotten. -/
def St.new (s : St) (j : Nat) (ob : Ob) : St := (s.map (SV.killD j)).setH j ob

/-- An array object as a shared list from now on. -/
def SV.freeze (j : Nat) (e : TypeId) (E : El) (xs : List E.T) : SV → SV
  | .slo k => cond (Nat.beq k j) (.sl false e E xs) (.slo k)
  | .ea (some k) e' E' ys i => cond (Nat.beq k j) (.ea none e' E' ys i) (.ea (some k) e' E' ys i)
  | v => v

def dropH (j : Nat) : List (Nat × Ob) → List (Nat × Ob)
  | [] => []
  | (t, v) :: r => cond (Nat.beq t j) (dropH j r) ((t, v) :: dropH j r)

def St.freeze (s : St) (j : Nat) : St :=
  match look s.H j with
  | some (.arr e E xs) => let s' := s.map (SV.freeze j e E xs); ⟨s'.sl, dropH j s'.H⟩
  | _ => s

/-- The greatest length that an append or a make may reach; and a string. -/
def LIM : Nat := 4294967296

def binI (op : BinOp) (k : IntKind) (x y : Int) : Option (Bool × SV) :=
  match op with
  | .add => some (true, .int k (k.wrap (x + y)))
  | .sub => some (true, .int k (k.wrap (x - y)))
  | .mul => some (true, .int k (k.wrap (x * y)))
  | .quo => some (!decide (y = 0), .int k (k.wrap (x.tdiv y)))
  | .rem => some (!decide (y = 0), .int k (x.tmod y))
  | .eql => some (true, .bool (decide (x = y)))
  | .neq => some (true, .bool (!decide (x = y)))
  | .lss => some (true, .bool (decide (x < y)))
  | .leq => some (true, .bool (decide (x ≤ y)))
  | .gtr => some (true, .bool (decide (y < x)))
  | .geq => some (true, .bool (decide (y ≤ x)))
  | .xor => some (true, .int k (k.wrap (BitVec.ofInt k.bits x ^^^ BitVec.ofInt k.bits y).toNat))
  | _ => none

def binS (op : BinOp) (x y : List UInt8) : Option (Bool × SV) :=
  match op with
  | .add => some (Nat.ble (x.length + y.length) LIM, .str (x ++ y))
  | .eql => some (true, .bool (decide (x = y)))
  | .neq => some (true, .bool (!decide (x = y)))
  | _ => none

def binB (op : BinOp) (x y : Bool) : Option (Bool × SV) :=
  match op with
  | .eql => some (true, .bool (x == y))
  | .neq => some (true, .bool (x != y))
  | _ => none

def isNe {α : Type} : List α → Bool
  | [] => false
  | _ :: _ => true

/-- A slice that has elements against nil. -/
def binN {α : Type} (op : BinOp) (xs : List α) : Option (Bool × AV) :=
  match op with
  | .eql => some (isNe xs, .s (.bool false))
  | .neq => some (isNe xs, .s (.bool true))
  | _ => none

def capsOf : List SV → Option (List Nat)
  | [] => some []
  | .ref j 0 :: r => match capsOf r with | some js => some (j :: js) | none => none
  | _ => none

def bytesOf : (E : El) → List E.T → Option (List UInt8)
  | .int .u8, xs => some (xs.map fun n : Int => UInt8.ofNat n.toNat)
  | _, _ => none

def bnd (s : St) (d : Int) : Option Operand → Option Int
  | none => some d
  | some x => match evs s x with | .int _ n => some n | _ => none

def oneSV : SV → Bool
  | .undef => false
  | .mark => false
  | _ => true

/-- Cells of an aggregate, some of them set. -/
def aggSet : List SV → List (Nat × SV) → Option (List SV)
  | cs, [] => some cs
  | cs, (k, v) :: r => cond (Nat.blt k cs.length && oneSV v) (aggSet (cs.set k v) r) none

/-- Whole numbers of a table from o on. -/
def rowOf (ns : List Int) (o : Nat) : Nat → List SV
  | 0 => []
  | n + 1 => .int .i64 (ns.getD o 0) :: rowOf ns (o + 1) n

/-- Operations that leave memory alone: a condition, and the value. -/
def opVal (V : Env) (s : St) (o : Oper) : Option (Bool × AV) :=
  match o.op with
  | .move x => some (true, ev s x)
  | .assign x => some (true, ev s x)
  | .nilCheck x =>
    match evs s x with
    | .ref j i => some (true, .s (.ref j i))
    | _ => none
  | .pick c x y =>
    match evs s c with
    | .bool b => some (true, cond b (ev s x) (ev s y))
    | _ => none
  | .binOp op t x y _ =>
    match evs s x, evs s y with
    | .int k a, .int k' b => cond (decide (k = k')) (match binI op k a b with | some (c, v) => some (c, .s v) | none => none) none
    | .str a, .str b => match binS op a b with | some (c, v) => some (c, .s v) | none => none
    | .bool a, .bool b => cond (V.isBool t) (match binB op a b with | some (c, v) => some (c, .s v) | none => none) none
    | .sl _ _ _ xs, .nil => cond (V.slice t).isSome (binN op xs) none
    | _, _ => none
  | .build t parts =>
    match V.agg t with
    | some zs => match aggSet zs (parts.toList.map fun p => (p.1, evs s p.2)) with | some cs => some (true, .agg cs) | none => none
    | none => none
  | .unOp op _ x =>
    match op, evs s x with
    | .neg, .int k n => some (true, .s (.int k (k.wrap (0 - n))))
    | .not, .bool b => some (true, .s (.bool (!b)))
    | _, _ => none
  | .convert src dst x =>
    match evs s x with
    | .int _ n =>
      match V.intk src, V.intk dst with
      | some _, some k => some (true, .s (.int k (k.wrap n)))
      | _, _ => none
    | .sl _ e E xs =>
      match V.slice src, bytesOf E xs with
      | some (e', .int .u8), some l => cond (V.isStr dst) (some (true, .s (.str l))) none
      | _, _ => none
    | .slo j =>
      match look s.H j with
      | some (.arr e E xs) =>
        match V.slice src, bytesOf E xs with
        | some (e', .int .u8), some l => cond (V.isStr dst) (some (true, .s (.str l))) none
        | _, _ => none
      | _ => none
    | _ => none
  | .slice t x lo hi mx =>
    match mx with
    | some _ => none
    | none =>
      match evs s x with
      | .str l =>
        match bnd s 0 lo, bnd s (l.length : Int) hi with
        | some a, some b => cond (V.isStr t) (some (decide (0 ≤ a) && decide (a ≤ b) && decide (b ≤ (l.length : Int)), .s (.str ((l.take b.toNat).drop a.toNat)))) none
        | _, _ => none
      | .sl l e E xs =>
        match V.slice t, bnd s 0 lo, bnd s (xs.length : Int) hi with
        | some (e', E'), some a, some b => cond (Nat.beq e e') (some (decide (0 ≤ a) && decide (a ≤ b) && decide (b ≤ (xs.length : Int)), .s (.sl l e E ((xs.take b.toNat).drop a.toNat)))) none
        | _, _, _ => none
      | _ => none
  | .extract x i =>
    match ev s x with
    | .tup vs => match vs[i]? with | some v => some (true, .s v) | none => none
    | _ => none
  | .fieldAddr t x f =>
    match evs s x, V.field t f with
    | .ref j i, some off => some (true, .s (.ref j (i + off)))
    | _, _ => none
  | .indexAddr t x i =>
    match V.slice t, evs s x, evs s i with
    | some (e, E), .sl _ e' E' xs, .int _ n => cond (Nat.beq e e') (some (decide (0 ≤ n) && decide (n < (xs.length : Int)), .s (.ea none e' E' xs n))) none
    | some (e, E), .slo j, .int _ n =>
      match look s.H j with
      | some (.arr e' E' xs) => cond (Nat.beq e e') (some (decide (0 ≤ n) && decide (n < (xs.length : Int)), .s (.ea (some j) e' E' xs n))) none
      | _ => none
    | _, .ref j o, .int _ n =>
      match V.arr t with
      | some m => some (decide (0 ≤ n) && decide (n < (m : Int)), .s (.ref j (o + n.toNat)))
      | none => none
    | _, .sh l (.tab k ns), .int _ n =>
      match V.tab t with
      | some (_, m) => cond (Nat.beq m k) (some (decide (0 ≤ n) && decide (n < ((ns.length / k : Nat) : Int)), .s (.sh l (.eat k ns n)))) none
      | none => none
    | _, .sh l (.rows e xss), .int _ n =>
      match V.rows t with
      | some (_, e') => cond (Nat.beq e e') (some (decide (0 ≤ n) && decide (n < (xss.length : Int)), .s (.sh l (.ear e xss n)))) none
      | none => none
    | _, _, _ => none
  | .load t x =>
    match evs s x with
    | .ea _ e E xs i => cond (V.one t) (some (true, .s (E.av (xs.getD i.toNat E.zero)))) none
    | .ref j i =>
      match look s.H j with
      | some (.cells _ cs) =>
        cond (V.one t && Nat.blt i cs.length) (some (true, .s (cs.getD i .undef)))
          (match V.agg t with
           | some zs => cond (Nat.beq i 0 && Nat.beq zs.length cs.length) (some (true, .agg cs)) none
           | none => none)
      | _ => none
    | .sh _ (.eat k ns i) =>
      match V.agg t with
      | some zs => cond (Nat.beq zs.length k) (some (true, .agg (rowOf ns (i.toNat * k) k))) none
      | none => none
    | .sh l (.ear e xss i) => cond (V.one t) (some (true, .s (.sl l e (.int .i64) (xss.getD i.toNat [])))) none
    | _ => none
  | .index t x i =>
    match evs s x, evs s i with
    | .str l, .int _ n => cond (V.isStr t) (some (decide (0 ≤ n) && decide (n < (l.length : Int)), .s (.int .u8 ((l.getD n.toNat 0).toNat : Int)))) none
    | _, _ => none
  | .makeFunc f first caps =>
    match f, first.toList, capsOf (caps.toList.map (evs s)) with
    | .func f, [], some js => some (true, .s (.clo f js))
    | _, _, _ => none
  | .call { callee := .builtin b, args, argTypes } =>
    match b, args.toList with
    | .len, [x] =>
      match evs s x with
      | .str l => cond (V.argStr argTypes.toList) (some (true, .s (.int .i64 (l.length : Int)))) none
      | .sl _ e E xs => cond (V.argSl argTypes.toList) (some (true, .s (.int .i64 (xs.length : Int)))) none
      | .sh _ (.tab k ns) => cond (V.argTab argTypes.toList) (some (true, .s (.int .i64 ((ns.length / k : Nat) : Int)))) none
      | .sh _ (.rows e xss) => cond (V.argRows argTypes.toList) (some (true, .s (.int .i64 (xss.length : Int)))) none
      | .slo j =>
        match look s.H j with
        | some (.arr _ _ xs) => cond (V.argSl argTypes.toList) (some (true, .s (.int .i64 (xs.length : Int)))) none
        | _ => none
      | _ => none
    | .max, [x, y] =>
      match evs s x, evs s y with
      | .int k a, .int _ b => some (true, .s (.int k (cond (decide (a < b)) b a)))
      | _, _ => none
    | .min, [x, y] =>
      match evs s x, evs s y with
      | .int k a, .int _ b => some (true, .s (.int k (cond (decide (b < a)) b a)))
      | _, _ => none
    | _, _ => none
  | _ => none

/-- The element that a simple value is. -/
def El.get : (E : El) → SV → Option E.T
  | .int k, .int k' n => cond (decide (k = k')) (some n) none
  | .str, .str s => some s
  | _, _ => none

def El.gets (E : El) : Nat → List (Nat × SV) → Option (List E.T)
  | _, [] => some []
  | i, (k, v) :: r => cond (Nat.beq k i) (match E.get v, E.gets (i + 1) r with | some x, some xs => some (x :: xs) | _, _ => none) none

/-- Elements of one kind as those of another, if both are one. -/
def El.cast : (E E' : El) → List E'.T → Option (List E.T)
  | .int k, .int k', xs => cond (decide (k = k')) (some xs) none
  | .str, .str, xs => some xs
  | _, _, _ => none

/-- The rows of a table, or of a list of lists. -/
def tabParts : Nat → List (Nat × AV) → Option (List (Int × Int))
  | _, [] => some []
  | i, (j, .agg [.int .i64 a, .int .i64 b]) :: r => cond (Nat.beq j i) (match tabParts (i + 1) r with | some ps => some ((a, b) :: ps) | none => none) none
  | _, _ => none
def flatI : List (Int × Int) → List Int
  | [] => []
  | (a, b) :: r => a :: b :: flatI r
def rowParts (e : TypeId) : Nat → List (Nat × SV) → Option (Bool × List (List Int))
  | _, [] => some (false, [])
  | i, (j, .sl l e' (.int .i64) xs) :: r => cond (Nat.beq j i && Nat.beq e' e) (match rowParts e (i + 1) r with | some (l', xss) => some (l || l', xs :: xss) | none => none) none
  | _, _ => none

def putO (s : St) (d : Option Tmp) (v : AV) : St := match d with | some d => s.put d v | none => s

/-- What a slice as a source holds. -/
def srcOf (s : St) (E : El) : SV → Option (List E.T)
  | .sl _ _ E' ys => E.cast E' ys
  | .slo j => match look s.H j with | some (.arr _ E' ys) => E.cast E' ys | _ => none
  | .nil => some []
  | _ => none

/-- Which slicings of an own array keep it the call's own (a beginning of it; by the slot that they write). -/
structure Ann where
  pre : Nat → Bool
  cut : Nat → Option (List Nat)
  frz : Nat → List Nat
  fz : Nat → Bool
  out : Exit → Option (List Nat)

/-- Operations that turn memory: a condition, and the state behind. -/
def opMut (V : Env) (A : Ann) (s : St) (o : Oper) : Option (Bool × St) :=
  match o.op, o.dst with
  | .alloc e, some d =>
    match V.zero e with
    | some sv => cond (V.one e) (some (true, (s.new (d + 1000) (.cells e [sv])).put d (.s (.ref (d + 1000) 0)))) none
    | none =>
      match V.agg e with
      | some zs => some (true, (s.new (d + 1000) (.cells e (zs.map (SV.killD (d + 1000))))).put d (.s (.ref (d + 1000) 0)))
      | none => none
  | .box e x, some d =>
    match ev s x with
    | .agg vs => some (true, (s.new (d + 1000) (.cells e (vs.map (SV.killD (d + 1000))))).put d (.s (.ref (d + 1000) 0)))
    | _ =>
      let v := SV.killD (d + 1000) (evs s x)
      cond (V.one e && oneSV v) (some (true, (s.new (d + 1000) (.cells e [v])).put d (.s (.ref (d + 1000) 0)))) none
  | .buildSlice t len parts, some d =>
    match V.slice t with
    | some (e, E) =>
      match E.gets 0 (parts.toList.map fun p => (p.1, evs s p.2)) with
      | some xs => cond (Nat.beq len xs.length && Nat.ble len 1000000) (some (true, (s.new (d + 1000) (.arr e E xs)).put d (.s (.slo (d + 1000))))) none
      | none => none
    | none =>
      match V.tab t, V.rows t with
      | some (_, k), _ =>
        match tabParts 0 (parts.toList.map fun p => (p.1, ev s p.2)) with
        | some ps => cond (Nat.beq k 2 && Nat.beq len ps.length && Nat.ble len 1000000 && Nat.blt 0 len) (some (true, s.put d (.s (.sh false (.tab 2 (flatI ps)))))) none
        | none => none
      | none, some (_, e) =>
        match rowParts e 0 (parts.toList.map fun p => (p.1, evs s p.2)) with
        | some (l, xss) => cond (Nat.beq len xss.length && Nat.ble len 1000000) (some (true, s.put d (.s (.sh l (.rows e xss))))) none
        | none => none
      | none, none => none
  | .makeSlice t l c, some d =>
    match V.slice t, evs s l, evs s c with
    | some (e, E), .int _ n, .int _ m =>
      some (decide (0 ≤ n) && decide (n ≤ m) && decide (m ≤ 4294967296), (s.new (d + 1000) (.arr e E (List.replicate n.toNat E.zero))).put d (.s (.slo (d + 1000))))
    | _, _, _ => none
  | .store t x y, none =>
    match evs s x with
    | .ref j i =>
      match look s.H j with
      | some (.cells ty cs) =>
        cond (V.one t && Nat.blt i cs.length && oneSV (evs s y)) (some (true, (s.map (SV.killH j)).setH j (.cells ty ((cs.set i (evs s y)).map (SV.killH j)))))
          (match ev s y, V.agg t with
           | .agg vs, some zs => cond (Nat.beq i 0 && Nat.beq vs.length cs.length && Nat.beq zs.length cs.length && vs.all oneSV) (some (true, (s.map (SV.killH j)).setH j (.cells ty (vs.map (SV.killH j))))) none
           | _, _ => none)
      | _ => none
    | .ea (some j) _ _ _ i =>
      match look s.H j with
      | some (.arr e E ys) =>
        match E.get (evs s y) with
        | some u => cond (V.one t) (some (true, (s.map (SV.killH j)).setH j (.arr e E (ys.set i.toNat u)))) none
        | none => none
      | _ => none
    | _ => none
  | .slice t x lo hi none, some d =>
    match evs s x with
    | .slo j =>
      match look s.H j with
      | some (.arr e E xs) =>
        match V.slice t, bnd s 0 lo, bnd s (xs.length : Int) hi with
        | some (e', E'), some a, some b =>
          cond (Nat.beq e e')
            (cond (A.pre d)
              (some (decide (a = 0) && decide (0 ≤ b) && decide (b ≤ (xs.length : Int)), (s.new j (.arr e E (xs.take b.toNat))).put d (.s (.slo j))))
              (some (decide (0 ≤ a) && decide (a ≤ b) && decide (b ≤ (xs.length : Int)), (s.freeze j).put d (.s (.sl false e E ((xs.take b.toNat).drop a.toNat)))))) none
        | _, _, _ => none
      | _ => none
    | _ => none
  | .call { callee := .builtin .append, args, argTypes }, some d =>
    match args.toList, argTypes.toList with
    | [x, y], [t, t'] =>
      cond (Nat.beq t t')
        (match V.slice t, evs s x with
         | none, .sh _ (.rows e xss0) =>
           match V.rows t, evs s y with
           | some (_, e1), .sh l' (.rows e2 yss) => cond (Nat.beq e e1 && Nat.beq e e2) (some (!isNe xss0 && (isNe yss && Nat.ble yss.length LIM), s.put d (.s (.sh l' (.rows e yss))))) none
           | _, _ => none
         | some (e, E), .slo j =>
           match look s.H j with
           | some (.arr e' E' xs) =>
             match srcOf s E' (evs s y) with
             | some ys => cond (Nat.beq e e') (some (Nat.ble (xs.length + ys.length) LIM, (s.new j (.arr e' E' (xs ++ ys))).put d (.s (.slo j)))) none
             | none => none
           | _ => none
         | some (e, E), .nil =>
           match srcOf s E (evs s y) with
           | some ys => some (Nat.ble ys.length LIM, (s.new (d + 1000) (.arr e E ys)).put d (.s (.slo (d + 1000))))
           | none => none
         | _, _ => none) none
    | _, _ => none
  | .move x, some d =>
    match evs s x with
    | .nil => match V.slice o.type with | some (e, E) => some (true, (s.new (d + 1000) (.arr e E [])).put d (.s (.slo (d + 1000)))) | none => none
    | _ => none
  | .assign x, some d =>
    match evs s x with
    | .nil => match V.slice o.type with | some (e, E) => some (true, (s.new (d + 1000) (.arr e E [])).put d (.s (.slo (d + 1000)))) | none => none
    | _ => none
  | _, _ => none

end Go.Proofs.Ytmmadcccjicdcaa.E
