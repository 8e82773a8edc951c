/- The abstract run of calls, regions and code. Definitions alone. -/
import Derived.Test.YtmmadcccjicdcaaE0
namespace Go.Proofs.Ytmmadcccjicdcaa.E
set_option linter.unusedVariables false

abbrev CF (R : Type) := List SV → List Ob → (List SV → List Ob → Option R) → Option R
/-- What is known of functions: are own slices handed over as objects? and what a call does. -/
abbrev Tab (R : Type) := Nat → Option (Bool × CF R)

def dOf : Option Tmp → Nat
  | some d => d
  | none => 0
def dOk (nt : Nat) : Option Tmp → Bool
  | some d => Nat.blt d nt
  | none => true

def pos : List Nat → Nat → Nat → Option Nat
  | [], _, _ => none
  | a :: r, j, n => cond (Nat.beq a j) (some n) (pos r j (n + 1))

def renL (f : Nat → Option Nat) : List Nat → Option (List Nat)
  | [] => some []
  | j :: r => match f j, renL f r with | some k, some ks => some (k :: ks) | _, _ => none

/-- Other names for objects. -/
def SV.ren (f : Nat → Option Nat) : SV → SV
  | .slo j => match f j with | some k => .slo k | none => .undef
  | .ea (some _) .. => .undef
  | .ref j o => match f j with | some k => .ref k o | none => .undef
  | .clo c caps => match renL f caps with | some ks => .clo c ks | none => .undef
  | v => v

def SV.ids : SV → List Nat
  | .slo j => [j]
  | .ref j _ => [j]
  | .clo _ caps => caps
  | _ => []

def svIds : List SV → List Nat
  | [] => []
  | v :: r => v.ids ++ svIds r

def Ob.ids : Ob → List Nat
  | .cells _ cs => svIds cs
  | .arr .. => []

def reach (H : List (Nat × Ob)) : Nat → List Nat → List Nat → List Nat
  | 0, _, done => done
  | _ + 1, [], done => done
  | n + 1, j :: todo, done => cond (memb j done) (reach H n todo done) (match look H j with | some ob => reach H n (todo ++ ob.ids) (done ++ [j]) | none => reach H n todo done)

/-- The objects that the arguments hand over; those whose contents they hand over. -/
def argIds (mode : Bool) : List SV → List Nat
  | [] => []
  | .slo j :: r => cond mode (j :: argIds mode r) (argIds mode r)
  | v :: r => v.ids ++ argIds mode r

def bvIds (mode : Bool) : List SV → List Nat
  | [] => []
  | .slo j :: r => cond mode (bvIds mode r) (j :: bvIds mode r)
  | _ :: r => bvIds mode r

def argSV (mode : Bool) (H : List (Nat × Ob)) (ids : List Nat) : SV → SV
  | .slo j => cond mode (SV.ren (fun j => pos ids j 0) (.slo j)) (match look H j with | some (.arr e E xs) => .sl true e E xs | _ => .undef)
  | v => v.ren (fun j => pos ids j 0)

def getObs (H : List (Nat × Ob)) (ids : List Nat) : List Nat → Option (List Ob)
  | [] => some []
  | j :: r => match look H j, getObs H ids r with | some ob, some obs => some (ob.map (SV.ren (fun j => pos ids j 0)) :: obs) | _, _ => none

def disj : List Nat → List Nat → Bool
  | [], _ => true
  | a :: r, l => !memb a l && disj r l

def nodupB : List Nat → Bool
  | [] => true
  | a :: r => !memb a r && nodupB r

def newId (d i : Nat) : Nat := 100000 + 64 * d + i
def isNew (d k : Nat) : Bool := Nat.ble (100000 + 64 * d) k && Nat.blt k (100000 + 64 * d + 64)
def isNewN (d m k : Nat) : Bool := Nat.ble (100000 + 64 * d) k && Nat.blt k (100000 + 64 * d + m)
def nth : List Nat → Nat → Option Nat
  | [], _ => none
  | a :: _, 0 => some a
  | _ :: r, n + 1 => nth r n
/-- The caller's name for the callee's object k. -/
def invOf (ids : List Nat) (d k : Nat) : Nat := match nth ids k with | some j => j | none => newId d (k - ids.length)

def isArr (H : List (Nat × Ob)) (k : Nat) : Bool := match look H k with | some (.arr ..) => true | _ => false

def anyP (p : Nat → Bool) : List Nat → Bool
  | [] => false
  | a :: r => cond (p a) true (anyP p r)

def SV.hP (p : Nat → Bool) : SV → Bool
  | .ea (some k) .. => p k
  | _ => false
def SV.dP (p : Nat → Bool) : SV → Bool
  | .slo k => p k
  | .ea (some k) .. => p k
  | .ref k _ => p k
  | .clo _ caps => anyP p caps
  | _ => false
def SV.killP (ph pd : Nat → Bool) (v : SV) : SV := cond (v.hP ph || v.dP pd) .undef v

def shSV : SV → Bool
  | .sl l .. => l
  | .sh l _ => l
  | .ea none .. => true
  | _ => false
def anySh : List SV → Bool
  | [] => false
  | v :: r => cond (shSV v) true (anySh r)
def obSh : Ob → Bool
  | .cells _ cs => anySh cs
  | .arr .. => false
def anyObSh : List Ob → Bool
  | [] => false
  | v :: r => cond (obSh v) true (anyObSh r)

def numObs (f : Nat → Option Nat) (inv : Nat → Nat) : Nat → List Ob → List (Nat × Ob)
  | _, [] => []
  | k, ob :: r => (inv k, ob.map (SV.ren f)) :: numObs f inv (k + 1) r

def isNilL : List Nat → Bool
  | [] => true
  | _ => false

def SV.isMark : SV → Bool
  | .mark => true
  | _ => false

/-- What a call's results are to the caller: one value, a struct's cells (behind a mark), or several. -/
def resAV : List SV → AV
  | [] => .tup []
  | [v] => .s v
  | v :: u :: vs => cond v.isMark (.agg (u :: vs)) (.tup (v :: u :: vs))

def afterCall (mode : Bool) (s : St) (dst : Option Tmp) (ids : List Nat) (res : List SV) (objs : List Ob) : St :=
  let d := dOf dst
  let inv := invOf ids d
  let f : Nat → Option Nat := fun k => cond (Nat.blt k objs.length) (some (inv k)) none
  let m := objs.length - ids.length
  let ph : Nat → Bool := fun k => memb k ids || isNewN d m k
  let pd : Nat → Bool := fun k => isNewN d m k || (memb k ids && isArr s.H k && !mode)
  putO ⟨mapSl (SV.killP ph pd) s.sl, numObs f inv 0 objs ++ mapH (SV.killP ph pd) s.H⟩ dst (resAV (res.map (SV.ren f)))

def callK {R : Type} (mode : Bool) (F : CF R) (s : St) (dst : Option Tmp) (args : List SV) (K : St → Option R) : Option R :=
  let ids := reach s.H 64 (argIds mode args) []
  let bv := bvIds mode args
  match getObs s.H ids ids with
  | none => none
  | some objs =>
    cond (disj bv ids && nodupB ids && Nat.blt ids.length 1000 && !anyP (isNew (dOf dst)) ids)
      (F (args.map (argSV mode s.H ids)) objs fun res objs2 =>
        cond (Nat.ble ids.length objs2.length && Nat.ble (objs2.length - ids.length) 64 && (!(anySh res || anyObSh objs2) || isNilL bv))
          (K (afterCall mode s dst ids res objs2)) none) none

def refs : List Nat → List SV
  | [] => []
  | j :: r => .ref j 0 :: refs r

def capsOk (H : List (Nat × Ob)) : List Nat → Bool
  | [] => true
  | j :: r => (match look H j with | some (.cells ..) => true | _ => false) && capsOk H r

def callArgs (s : St) (c : Call) (caps : List Nat) : List SV := (c.args.toList.map (evs s)) ++ refs caps

/-- Own arrays that are shared as soon as they are there (by the slot that they are written to). -/
def frzIds : List SV → List Nat
  | [] => []
  | .slo j :: r => j :: frzIds r
  | _ :: r => frzIds r

def freezeAll : List Nat → St → St
  | [], s => s
  | j :: r, s => freezeAll r (s.freeze j)

def postFz (A : Ann) (dst : Option Tmp) (s : St) : St :=
  match dst with
  | some d => cond (A.fz d) (match s.get d with | .s v => freezeAll (frzIds [v]) s | .tup vs => freezeAll (frzIds vs) s | .agg _ => s) s
  | none => s

def stepOp {R : Type} (T : Tab R) (V : Env) (A : Ann) (nt : Nat) (s : St) (o : Oper) (K : St → Option R) : Option R :=
  cond (dOk nt o.dst)
    (match o.op with
     | .call { callee := .value f, args, argTypes } =>
       match evs s f with
       | .clo fid caps =>
         match T fid with
         | some (mode, F) => cond (capsOk s.H caps) (callK mode F s o.dst (callArgs s { callee := .value f, args, argTypes } caps) fun s => K (postFz A o.dst s)) none
         | none => none
       | _ => none
     | _ =>
       match opMut V A s o with
       | some (c, s') => cond c (K (postFz A o.dst s')) none
       | none =>
         match opVal V s o with
         | some (c, v) => cond c (K (putO s o.dst v)) none
         | none => none) none

def guardK {R : Type} (ops : Array Oper) (o : Oper) (s : St) (yes no : St → Option R) : Option R :=
  match o.guard with
  | none => yes s
  | some (j, want) =>
    match (ops[j]?).bind (·.dst) with
    | some t =>
      match s.get t with
      | .s (.bool b) =>
        match want with
        | true => cond b (yes (s.put t (.s (.bool true)))) (no (s.put t (.s (.bool false))))
        | false => cond b (no (s.put t (.s (.bool true)))) (yes (s.put t (.s (.bool false))))
      | .tup [] => no s
      | _ => none
    | none => none

def evOps {R : Type} (T : Tab R) (V : Env) (A : Ann) (nt : Nat) (ops : Array Oper) : List Oper → St → (St → Option R) → Option R
  | [], s, K => K s
  | o :: r, s, K =>
    guardK ops o s (fun s => stepOp T V A nt s o fun s' => evOps T V A nt ops r s' K)
      (fun s => cond (dOk nt o.dst) (evOps T V A nt ops r (putO s o.dst (.tup [])) K) none)

def freezeSlots : List Nat → St → St
  | [], s => s
  | t :: r, s => freezeSlots r (match s.get t with | .s (.slo j) => s.freeze j | _ => s)

/-- What a state keeps at a cut: the slots named, and the objects that they lead to (and those that came in). -/
def keepSl (s : St) : List Nat → List (Nat × AV)
  | [] => []
  | t :: r => (t, s.get t) :: keepSl s r

def AV.ids : AV → List Nat
  | .s v => v.ids
  | .tup vs => svIds vs
  | .agg vs => svIds vs

def slIds : List (Nat × AV) → List Nat
  | [] => []
  | (_, v) :: r => v.ids ++ slIds r

def keepH (H : List (Nat × Ob)) : List Nat → List (Nat × Ob)
  | [] => []
  | j :: r => match look H j with | some ob => (j, ob) :: keepH H r | none => keepH H r

def oldIds : List (Nat × Ob) → List Nat
  | [] => []
  | (j, _) :: r => cond (Nat.blt j 1000) (j :: oldIds r) (oldIds r)

def cutSt (L : List Nat) (s : St) : St :=
  let sl := keepSl s L
  ⟨sl, keepH s.H (reach s.H 64 (oldIds s.H ++ slIds sl) [])⟩

def firstReg : Code → Nat
  | .region id _ _ => id
  | .seq a _ => firstReg a
  | .block _ c => firstReg c
  | .loop c => firstReg c
  | .scope c => firstReg c
  | _ => 1000000

def cutAt (A : Ann) (c : Code) (s : St) : St := match A.cut (firstReg c) with | some L => cutSt L s | none => s

/-- What a state keeps where a loop is left. -/
def cutOut (A : Ann) (e : Exit) (s : St) : St := match A.out e with | some L => cutSt L s | none => s

/-- The outermost loops of a code. -/
def loops : Code → List Code
  | .seq a b => loops a ++ loops b
  | .cond _ a b => loops a ++ loops b
  | .block _ c => loops c
  | .loop c => [c]
  | _ => []

/-- An own array that a callee made, by its contents. -/
def inlSV (objs : List Ob) : SV → SV
  | .slo k => match objs[k]? with | some (.arr e E xs) => .sl false e E xs | _ => .undef
  | .ea (some _) .. => .undef
  | .ref .. => .undef
  | .clo _ (_ :: _) => .undef
  | v => v

/-- An operation of a region whose order is drawn: what it writes to its slot. Nothing that it makes is the call's own afterwards. -/
def dstep {R : Type} (T : Tab R) (V : Env) (s : St) (o : Oper) (K : AV → Option R) : Option R :=
  match o.op with
  | .call { callee := .value f, args, argTypes } =>
    match evs s f with
    | .clo fid [] =>
      match T fid with
      | some (false, F) =>
        cond (isNilL (argIds false (args.toList.map (evs s))))
          (F ((args.toList.map (evs s)).map (argSV false s.H [])) [] fun res objs =>
            cond (!anySh res || isNilL (bvIds false (args.toList.map (evs s)))) (K (resAV (res.map (inlSV objs)))) none) none
      | _ => none
    | _ => none
  | .buildSlice t len parts =>
    match V.slice t with
    | some (e, E) =>
      match E.gets 0 (parts.toList.map fun p => (p.1, evs s p.2)) with
      | some xs => cond (Nat.beq len xs.length && Nat.ble len 1000000) (K (.s (.sl false e E xs))) none
      | none => none
    | none => none
  | _ =>
    match opVal V s o with
    | some (c, v) => cond c (K v) none
    | none => none

def evD {R : Type} (T : Tab R) (V : Env) (nt : Nat) : List Oper → St → (St → Option R) → Option R
  | [], s, K => K s
  | o :: r, s, K =>
    match o.dst, o.guard with
    | some d, none => cond (Nat.blt d nt) (dstep T V s o fun v => evD T V nt r (s.put d v) K) none
    | _, _ => none

def optsL : List Oper → List Nat
  | [] => []
  | o :: r => match o.dst with | some d => d :: optsL r | none => optsL r

/-- What a region's operations wait for, by the edges that bind in every order, looked through to the bottom. -/
def maskOf (acc : List Nat) : List Edge → Nat
  | [] => 0
  | e :: r => cond (Region.binds .any e) (maskOf acc r ||| 2 ^ e.on ||| acc.getD e.on 0) (maskOf acc r)

def befs : List Oper → List Nat → List Nat
  | [], acc => acc
  | o :: r, acc => befs r (acc ++ [maskOf acc o.after.toList])

def edgesDown : Nat → List Oper → Bool
  | _, [] => true
  | i, o :: r => (o.after.toList.all fun e => !Region.binds .any e || Nat.blt e.on i) && edgesDown (i + 1) r

def tmpsOf : List Operand → List Nat
  | [] => []
  | .tmp t :: r => t :: tmpsOf r
  | _ :: r => tmpsOf r

/-- Each two operations of which one writes what the other looks at are ordered by edges. -/
def ordRow (ops : List Oper) (masks : List Nat) (j : Nat) (looks : List Nat) : Nat → List Oper → Bool
  | _, [] => true
  | i, x :: r => (Nat.beq i j || (match x.dst with | some d => !memb d looks || (masks.getD j 0).testBit i || (masks.getD i 0).testBit j | none => true)) && ordRow ops masks j looks (i + 1) r

def ordOk (ops : List Oper) (masks : List Nat) : Nat → List Oper → Bool
  | _, [] => true
  | j, y :: r => ordRow ops masks j (tmpsOf y.op.operands.toList) 0 ops && ordOk ops masks (j + 1) r

def topoB (md : Region.Mode) (ops : Array Oper) : List Nat → List Nat → Bool
  | [], _ => true
  | i :: r, done => !memb i done && (match ops[i]? with | some o => o.after.toList.all fun e => !Region.binds md e || memb e.on done | none => false) && topoB md ops r (i :: done)

def allIn : Nat → List Nat → Bool
  | 0, _ => true
  | n + 1, l => memb n l && allIn n l

def topoOk (ops : Array Oper) : Bool :=
  let t := Region.linearise .text ops 0
  let g := Region.linearise .gc ops 0
  let a := Region.linearise .any ops 0
  topoB .text ops t [] && allIn ops.size t && (topoB .gc ops g [] && allIn ops.size g) && (topoB .any ops a [] && allIn ops.size a)

/-- The last operation comes behind all others in every order. -/
def lastOk (mask : Nat) : Nat → Bool
  | 0 => true
  | n + 1 => mask.testBit n && lastOk mask n

def isLastOf (last : Nat → Bool) (ops : Array Oper) : Bool := match ops[0]? with | some o => last (dOf o.dst) | none => false
def mOf (b : Bool) (n : Nat) : Nat := cond b (n - 1) n

/-- A region whose order is drawn: the run in the text's order tells of all; `last`: the last operation may turn memory. -/
def evDraw {R : Type} (T : Tab R) (V : Env) (A : Ann) (last : Nat → Bool) (nt : Nat) (ops : Array Oper) (s : St) (K : St → Option R) : Option R :=
  let isLast := isLastOf last ops
  let m := mOf isLast ops.size
  let masks := befs ops.toList []
  cond (edgesDown 0 ops.toList && ordOk (ops.toList.take m) masks 0 (ops.toList.take m) && topoOk ops && nodupB (optsL (ops.toList.take m)) && (!isLast || (lastOk (masks.getD m 0) m && Nat.blt m ops.size)))
    (evD T V nt (ops.toList.take m) s fun s' =>
      cond isLast (match ops[m]? with | some o => (match o.guard with | none => stepOp T V A nt s' o K | some _ => none) | none => none) (K s')) none

def evk {R : Type} (T : Tab R) (V : Env) (A : Ann) (nt : Nat) (D : Array Oper → St → (St → Option R) → Option R) (L : Code → St → (Exit → St → Option R) → Option R) : Code → St → (Exit → St → Option R) → Option R
  | .skip, s, K => K .normal s
  | .region id ops false, s, K => evOps T V A nt ops ops.toList (freezeSlots (A.frz id) s) (K .normal)
  | .region id ops true, s, K => D ops (freezeSlots (A.frz id) s) (K .normal)
  | .seq a b, s, K => evk T V A nt D L a s fun e s' => match e with | .normal => evk T V A nt D L b (cutAt A b s') K | e => K e s'
  | .cond x a b, s, K =>
    match x, evs s x with
    | .tmp t, .bool v => cond v (evk T V A nt D L a (s.put t (.s (.bool true))) K) (evk T V A nt D L b (s.put t (.s (.bool false))) K)
    | _, _ => none
  | .block id c, s, K => evk T V A nt D L c s fun e s' => match e with | .exit i => cond (Nat.beq i id) (K .normal s') (K (.exit i) s') | e => K e s'
  | .loop c, s, K => L c s K
  | .exit id, s, K => K (.exit id) s
  | .ret, s, K => K .ret s
  | _, _, _ => none

end Go.Proofs.Ytmmadcccjicdcaa.E
