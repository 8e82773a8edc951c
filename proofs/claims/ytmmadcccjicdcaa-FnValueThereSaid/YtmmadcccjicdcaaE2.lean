/- Operations that leave memory alone: the machine's run of each gives the value that the abstract run tells. -/
import Derived.Test.YtmmadcccjicdcaaE1
import Derived.Laws.Cover3
import Derived.Laws.Strings
import Derived.Laws.Concat
import Derived.Laws.Small
import Derived.Laws.BytesString
import Derived.Lib.Strings
namespace Go.Proofs.Ytmmadcccjicdcaa.E
set_option linter.unusedVariables false
set_option linter.unusedSimpArgs false

def notAgg : TypeDesc → Bool
  | .struct _ | .array _ _ => false
  | _ => true

structure EnvOk (V : Env) : Prop where
  slice : ∀ t e E, V.slice t = some (e, E) → V.P.underlying t = some (.slice e) ∧ ∃ i, V.P.info? e = some i ∧ i.size = 1 ∧ i.zero = some (E.enc E.zero) ∧ 0 < i.bytes ∧ i.bytes ≤ 24 ∧ ∀ k, E = .int k → V.P.underlying e = some (.int k)
  one : ∀ t, V.one t = true → (∃ d, V.P.underlying t = some d ∧ notAgg d = true) ∧ ∃ i, V.P.info? t = some i ∧ i.size = 1
  intk : ∀ t k, V.intk t = some k → V.P.underlying t = some (.int k)
  isStr : ∀ t, V.isStr t = true → V.P.underlying t = some .string
  isBool : ∀ t, V.isBool t = true → V.P.underlying t = some .bool
  field : ∀ t f off, V.field t f = some off → ∃ fs fd i, V.P.underlying t = some (.struct fs) ∧ fs[f]? = some fd ∧ fd.offset = off ∧ V.P.info? fd.type = some i ∧ i.size ≠ 0
  agg : ∀ t zs, V.agg t = some zs → ∃ i cs, V.P.info? t = some i ∧ i.zero = some (.agg cs) ∧ cs.size = zs.length ∧ (∀ k sv, zs[k]? = some sv → ∀ g w, rep g w sv (cs.getD k undef)) ∧
    ((∃ fs, V.P.underlying t = some (.struct fs) ∧ fs.size = zs.length ∧ ∀ (k : Nat) (f : Field), fs[k]? = some f → f.offset = k ∧ ∃ j, V.P.info? f.type = some j ∧ j.size = 1) ∨ (∃ n e, V.P.underlying t = some (.array n e) ∧ ∃ j, V.P.info? e = some j ∧ j.size = 1))
  arr : ∀ t n, V.arr t = some n → ∃ e j, V.P.underlying t = some (.array n e) ∧ V.P.info? e = some j ∧ j.size = 1
  tab : ∀ t e k, V.tab t = some (e, k) → V.P.underlying t = some (.slice e) ∧ 0 < k ∧ ∃ i cs, V.P.info? e = some i ∧ i.size = k ∧ i.zero = some (.agg cs) ∧ cs.size = k
  rows : ∀ t e e', V.rows t = some (e, e') → V.P.underlying t = some (.slice e) ∧ ∃ i v, V.P.info? e = some i ∧ i.size = 1 ∧ i.zero = some v ∧ v.oneCell' = true ∧ 0 < i.bytes ∧ i.bytes ≤ 24
  aggSize : ∀ t zs, V.agg t = some zs → ∃ i, V.P.info? t = some i ∧ i.size = zs.length
  zero : ∀ t sv, V.zero t = some sv → ∃ i v, V.P.info? t = some i ∧ i.zero = some v ∧ v.oneCell' = true ∧ ∀ g w, rep g w sv v

section
variable {V : Env} (hV : EnvOk V) {nt : Nat} {w0 : World} {κ0 : Nat → Cls} {C0 : Nat → Prop} {hd0 : Nat → Value} {g : G} {s : St} {a : Act} {w : World}

theorem run_under {P : Program} {t : TypeId} {d : TypeDesc} (h : P.underlying t = some d) (w : World) : (underlying t).run P w = .ok d w := by
  simp [underlying, h]

theorem run_size {P : Program} {t : TypeId} {i : TypeInfo} (h : P.info? t = some i) (w : World) : (sizeOf t).run P w = .ok i.size w := by
  simp [sizeOf, typeInfo, h]

theorem constV_rep (g : G) (w : World) (v : Value) : rep g w (constV v) v := by
  unfold constV
  split <;> simp [rep]

theorem ev_rep (h : Rel nt w0 κ0 C0 hd0 g s a w) (x : Operand) : repA g w (ev s x) (a.eval x) := by
  cases x with
  | tmp t => exact h.slots t
  | const v => exact constV_rep g w v
  | func f => show rep g w (.clo f []) _; simp [rep, Act.eval]
  | global _ => exact True.intro

theorem evs_rep (h : Rel nt w0 κ0 C0 hd0 g s a w) (x : Operand) : rep g w (evs s x) (a.eval x) := by
  have := ev_rep h x
  unfold evs
  cases he : ev s x with
  | s v => rw [he] at this; exact this
  | tup _ => trivial
  | agg _ => trivial

theorem av_rep (g : G) (w : World) (E : El) (x : E.T) : rep g w (E.av x) (E.enc x) := by
  cases E <;> simp [El.av, El.enc, rep]

theorem enc_one (E : El) (x : E.T) : (E.enc x).oneCell' = true := by
  cases E <;> simp [El.enc, Value.oneCell']

theorem add_lit' (b o n : Nat) : (⟨b, o, none⟩ : Addr).add n = ⟨b, o + n, none⟩ := by
  unfold Addr.add
  split
  · rename_i h; subst h; rfl
  · rfl

/-- A load of one cell. -/
theorem run_loadAt1 {P : Program} {t : TypeId} {d : TypeDesc} (hu : P.underlying t = some d) (hd : notAgg d = true) {w : World} {ad : Addr} {v : Value} (hc : w.cell? ad = some v) :
    (Instr.loadAt t (.pointer (some ad))).run P w = .ok v w := by
  have ha : (isAgg t).run P w = .ok false w := by
    simp only [isAgg, Sem.run_bind, run_under hu, Result.andThen_ok]
    cases d <;> simp [notAgg] at hd <;> simp
  simp [Instr.loadAt, Instr.sureAddr, loadVar, ha, hc]

theorem own_cell {w : World} {e : TypeId} {v : Value} {xs : List Value} {b i : Nat} (h : w.ownsRow 0 e 1 v xs.length xs) (hb : v.ownBlock = some b) (u : Value) (hi : xs[i]? = some u) :
    w.cell? ⟨b, i, none⟩ = some u := by
  have := h.cells hb i u hi
  rwa [add_lit', Nat.zero_add] at this

theorem getD_enc (E : El) (xs : List E.T) (i : Nat) (h : i < xs.length) : (xs.map E.enc)[i]? = some (E.enc (xs.getD i E.zero)) := by
  simp [h]

theorem run_binI {P : Program} {w : World} (op : BinOp) (k : IntKind) (x y : Int) (r : SV) (h : binI op k x y = some (true, r)) (t : TypeId) :
    ∃ v, (binOp op t (.int k x) (.int k y)).run P w = .ok v w ∧ ∀ g w', rep g w' r v := by
  cases op <;> simp only [binI, Option.some.injEq, Prod.mk.injEq, reduceCtorEq] at h
  case quo =>
    obtain ⟨hy, rfl⟩ := h
    have hy' : ¬ y = 0 := by simpa using hy
    exact ⟨.int k (k.wrap (x.tdiv y)), by simp [binOp, Op.intDiv, hy'], fun _ _ => rfl⟩
  case rem =>
    obtain ⟨hy, rfl⟩ := h
    have hy' : ¬ y = 0 := by simpa using hy
    exact ⟨.int k (x.tmod y), by simp [binOp, Op.intDiv, hy'], fun _ _ => rfl⟩
  case eql => obtain ⟨_, rfl⟩ := h; exact ⟨.bool (x == y), by simp [binOp, Op.intCmp], fun _ _ => by simp only [rep]; congr⟩
  case neq => obtain ⟨_, rfl⟩ := h; exact ⟨.bool (x != y), by simp [binOp, Op.intCmp], fun _ _ => by simp only [rep]; congr⟩
  case lss => obtain ⟨_, rfl⟩ := h; exact ⟨.bool (x < y), by simp [binOp, Op.intCmp], fun _ _ => rfl⟩
  case leq => obtain ⟨_, rfl⟩ := h; exact ⟨.bool (x ≤ y), by simp [binOp, Op.intCmp], fun _ _ => rfl⟩
  case gtr => obtain ⟨_, rfl⟩ := h; exact ⟨.bool (x > y), by simp [binOp, Op.intCmp], fun _ _ => rfl⟩
  case geq => obtain ⟨_, rfl⟩ := h; exact ⟨.bool (x ≥ y), by simp [binOp, Op.intCmp], fun _ _ => rfl⟩
  case add => obtain ⟨_, rfl⟩ := h; exact ⟨.int k (k.wrap (x + y)), by simp [binOp, Op.intArith], fun _ _ => rfl⟩
  case sub => obtain ⟨_, rfl⟩ := h; exact ⟨.int k (k.wrap (x - y)), by simp [binOp, Op.intArith], fun _ _ => rfl⟩
  case mul => obtain ⟨_, rfl⟩ := h; exact ⟨.int k (k.wrap (x * y)), by simp [binOp, Op.intArith], fun _ _ => rfl⟩
  case xor => obtain ⟨_, rfl⟩ := h; exact ⟨.int k (k.wrap (BitVec.ofInt k.bits x ^^^ BitVec.ofInt k.bits y).toNat), by simp [binOp, Op.intBits], fun _ _ => rfl⟩

theorem str_toList (z : List UInt8) : (⟨z.toArray⟩ : ByteArray).toList = z := by rw [ByteArray.toList_eq]

theorem str_size (z : List UInt8) : (⟨z.toArray⟩ : ByteArray).size = z.length := by simp [ByteArray.size]

theorem run_binS {P : Program} {w : World} (op : BinOp) (x y : List UInt8) (r : SV) (h : binS op x y = some (true, r)) (t : TypeId) :
    ∃ v, (binOp op t (.string ⟨x.toArray⟩) (.string ⟨y.toArray⟩)).run P w = .ok v w ∧ ∀ g w', rep g w' r v := by
  cases op <;> simp only [binS, Option.some.injEq, Prod.mk.injEq, reduceCtorEq] at h
  case add =>
    obtain ⟨hl, rfl⟩ := h
    have hl' : x.length + y.length ≤ 4294967296 := Nat.le_of_ble_eq_true hl
    refine ⟨.string (⟨x.toArray⟩ ++ ⟨y.toArray⟩), ?_, fun _ _ => ?_⟩
    · simp only [binOp, Op.stringOp, str_size]
      rw [if_neg (by simp only [show IntKind.i64.max = 9223372036854775807 from rfl]; omega)]
      rfl
    · simp [rep, ByteArray.mk_append_mk]
  case eql =>
    obtain ⟨_, rfl⟩ := h
    exact ⟨.bool (x == y), by simp [binOp, Op.stringOp, str_toList], fun _ _ => by simp only [rep]; congr; by_cases h : x = y <;> simp [h]⟩
  case neq =>
    obtain ⟨_, rfl⟩ := h
    exact ⟨.bool (!(x == y)), by simp [binOp, Op.stringOp, str_toList], fun _ _ => by simp only [rep]; congr; by_cases h : x = y <;> simp [h]⟩

theorem run_index_slice {P : Program} {t e : TypeId} {i : TypeInfo} (hu : P.underlying t = some (.slice e)) (hi : P.info? e = some i) (h1 : i.size = 1) (w : World) (b o n c : Nat) (k : IntKind) (x : Int) (h0 : 0 ≤ x) (hx : x < (n : Int)) :
    (Instr.indexAt t (.slice (some ⟨b, o, none⟩) n c) (.int k x)).run P w = .ok (.pointer (some ⟨b, o + x.toNat, none⟩)) w := by
  simp [Instr.indexAt, asIntOf, run_under hu, run_size hi, h1, h0, hx, add_lit']

theorem evs_of {x : Operand} {sv : SV} (h : Rel nt w0 κ0 C0 hd0 g s a w) (hx : evs s x = sv) : rep g w sv (a.eval x) := hx ▸ evs_rep h x

theorem exec_of {P : Program} {o : Oper} {w w' : World} {v : Value} {m : Sem Value} (he : execOp a.eval o = (do pure (.value (← m)))) (h : m.run P w = .ok v w') : (execOp a.eval o).run P w = .ok (.value v) w' := by
  rw [he]; simp [h]

theorem capsOf_rep (g : G) (w : World) : ∀ (svs : List SV) (js : List Nat) (vs : List Value), capsOf svs = some js → vs.length = svs.length → (∀ i sv, svs[i]? = some sv → rep g w sv (vs.getD i undef)) → vs = js.map g.hd
  | [], js, vs, h, hl, _ => by
    simp only [capsOf, Option.some.injEq] at h
    subst h
    exact List.eq_nil_of_length_eq_zero hl
  | sv :: r, js, [], h, hl, _ => by simp at hl
  | sv :: r, js, v :: vs, h, hl, hr => by
    unfold capsOf at h
    split at h
    · rename_i heq; cases heq
    · rename_i j r' heq
      cases heq
      split at h
      · rename_i js' hj
        cases h
        have h0 := hr 0 _ rfl
        obtain ⟨b, h1, h2⟩ := h0
        have ih := capsOf_rep g w r js' vs hj (by simpa using hl) fun i sv hi => by simpa using hr (i + 1) sv (by simpa using hi)
        simp only [List.getD_cons_zero] at h2
        rw [List.map_cons, ← ih, h1, h2]
      · cases h
    · cases h

theorem bytesOf_int {E : El} {xs : List E.T} {l : List UInt8} (h : bytesOf E xs = some l) : E = .int .u8 := by
  unfold bytesOf at h
  split at h
  · rfl
  · cases h

theorem loadCells_ints {P : Program} {w : World} (ad : Addr) : ∀ (ys : List Int) (i : Nat) (acc : Array Value), (∀ k u, ys[k]? = some u → w.cell? (ad.add (i + k)) = some (.int .u8 u)) →
    (loadCellsFrom ad i ys.length acc).run P w = .ok (acc ++ (ys.map (Value.int .u8)).toArray) w
  | [], i, acc, _ => by simp [loadCellsFrom]
  | y :: r, i, acc, h => by
    have h0 := h 0 y rfl
    have ih := loadCells_ints (P := P) ad r (i + 1) (acc.push (.int .u8 y)) fun k u hk => by
      have := h (k + 1) u (by simpa using hk)
      rwa [show i + (k + 1) = i + 1 + k by omega] at this
    simp only [loadCellsFrom, List.length_cons]
    simp only [Sem.run_bind, run_load, show w.cell? (ad.add i) = some (.int .u8 y) from h0, Result.andThen_ok, ih]
    simp

theorem push_toArray (l : List UInt8) (ys : List Int) : ys.foldl (fun r n => r.push (UInt8.ofNat n.toNat)) (⟨l.toArray⟩ : ByteArray) = ⟨(l ++ ys.map fun n : Int => UInt8.ofNat n.toNat).toArray⟩ := by
  induction ys generalizing l with
  | nil => simp
  | cons y r ih =>
    rw [List.foldl_cons]
    have : (⟨l.toArray⟩ : ByteArray).push (UInt8.ofNat y.toNat) = ⟨(l ++ [UInt8.ofNat y.toNat]).toArray⟩ := by simp [ByteArray.push]
    rw [this, ih]
    simp

theorem drop_take_str (l : List UInt8) (p q : Nat) : (⟨l.toArray⟩ : ByteArray).extract p q = ⟨((l.take q).drop p).toArray⟩ := by
  have h := Lib.extract_data ⟨l.toArray⟩ p q
  have h2 : ((⟨l.toArray⟩ : ByteArray).extract p q).data = ((l.take q).drop p).toArray := by
    apply Array.toList_inj.1
    rw [h, List.drop_take]
  cases hb : (⟨l.toArray⟩ : ByteArray).extract p q with
  | mk d => rw [hb] at h2; simp at h2; rw [h2]

theorem run_bounds (h : Rel nt w0 κ0 C0 hd0 g s a w) {P : Program} (isS : Bool) (n c : Nat) (lo hi : Option Operand) (p q : Int) (hp : bnd s 0 lo = some p) (hq : bnd s (n : Int) hi = some q)
    (h0 : 0 ≤ p) (h1 : p ≤ q) (h2 : q ≤ (n : Int)) (hc : n ≤ c) :
    (Instr.sliceBounds isS n c (lo.map a.eval) (hi.map a.eval) none).run P w = .ok (p.toNat, q.toNat, c) w := by
  have hlo : ∀ x, lo = some x → ∃ k, a.eval x = .int k p := fun x hx => by
    subst hx
    simp only [bnd] at hp
    split at hp
    · rename_i k m hm; cases hp; exact ⟨k, evs_of h hm⟩
    · cases hp
  have hhi : ∀ x, hi = some x → ∃ k, a.eval x = .int k q := fun x hx => by
    subst hx
    simp only [bnd] at hq
    split at hq
    · rename_i k m hm; cases hq; exact ⟨k, evs_of h hm⟩
    · cases hq
  have hpl : lo = none → p = 0 := fun hx => by subst hx; simp only [bnd, Option.some.injEq] at hp; exact hp.symm
  have hql : hi = none → q = n := fun hx => by subst hx; simp only [bnd, Option.some.injEq] at hq; exact hq.symm
  have hqc : q ≤ (c : Int) := by omega
  have hq0 : 0 ≤ q := by omega
  have hpq : p ≤ (q.toNat : Int) := by omega
  cases hi with
  | none =>
    have hqn := hql rfl
    subst hqn
    cases lo with
    | none => have := hpl rfl; subst this; simp [Instr.sliceBounds]
    | some x =>
      obtain ⟨k, hk⟩ := hlo x rfl
      simp [Instr.sliceBounds, Instr.sliceBound, hk, asIntOf, h0, h2, h1]
  | some y =>
    obtain ⟨k', hk'⟩ := hhi y rfl
    cases lo with
    | none => have := hpl rfl; subst this; simp [Instr.sliceBounds, Instr.sliceBound, hk', asIntOf, hq0, hqc]
    | some x =>
      obtain ⟨k, hk⟩ := hlo x rfl
      have hmx : ¬ max q 0 < p := by omega
      simp [Instr.sliceBounds, Instr.sliceBound, hk, hk', asIntOf, hq0, hqc, h0]
      intro hlt
      exact absurd hlt hmx

include hV in
/-- Bytes to a string. -/
theorem run_strof {src dst' e' : TypeId} {l : List UInt8} {ys : List Int} {x : Operand} (hs : V.slice src = some (e', .int .u8)) (ht : V.isStr dst' = true) (h : Rel nt w0 κ0 C0 hd0 g s a w) (w1 : World) {A : Option Addr} {c : Nat}
    {d : Option Tmp} {ty : TypeId} {ps : String} {af : Array Edge} {gd : Option (Nat × Bool)}
    (h1 : a.eval x = .slice A ys.length c) (h3 : ys ≠ [] → ∃ ad, A = some ad ∧ ∀ i u, ys[i]? = some u → w.cell? (ad.add i) = some (.int .u8 u)) (hb : bytesOf (.int .u8) ys = some l) :
    (execOp a.eval { dst := d, op := .convert src dst' x, type := ty, pos := ps, after := af, guard := gd }).run V.P w = .ok (.value (.string ⟨l.toArray⟩)) w := by
  obtain ⟨hu, ti, hinfo, hsz, hz, _⟩ := hV.slice src e' _ hs
  have hl : l = ys.map fun n : Int => UInt8.ofNat n.toNat := by simp only [bytesOf, Option.some.injEq] at hb; exact hb.symm
  have hue := (‹0 < ti.bytes ∧ ti.bytes ≤ 24 ∧ ∀ k, El.int .u8 = .int k → V.P.underlying e' = some (.int k)›).2.2 .u8 rfl
  have hs' := hV.isStr dst' ht
  have hconv : (Conv.bytesToString (.slice A ys.length c)).run V.P w = .ok (.string ⟨l.toArray⟩) w := by
    cases A with
    | none =>
      have : ys = [] := by
        cases ys with
        | nil => rfl
        | cons y r => obtain ⟨ad, hA, _⟩ := h3 (by simp); cases hA
      subst this
      subst hl
      simp [Conv.bytesToString]
      rfl
    | some ad =>
      have hload : (loadCells ad ys.length).run V.P w = .ok (ys.map (Value.int .u8)).toArray w := by
        have := loadCells_ints (P := V.P) (w := w) ad ys 0 #[] fun k u hk => by
          rw [Nat.zero_add]
          obtain ⟨ad', hA, hc⟩ := h3 (by intro hz; subst hz; simp at hk)
          cases hA
          exact hc k u hk
        simpa [loadCells] using this
      rw [run_bytesToString w ad ys.length c ys hload]
      have := push_toArray [] ys
      simp only [List.nil_append] at this
      rw [hl]
      exact congrArg (fun z => Result.ok (Value.string z) w) this
  simp only [execOp, h1]
  simp only [Sem.run_bind, convert, run_under hu, run_under hs', Result.andThen_ok, run_under hue, hconv]
  simp

theorem one_of_rep {sv : SV} {v : Value} (h1 : oneSV sv = true) (hr : rep g w sv v) : v.oneCell' = true := by
  cases sv with
  | undef => cases h1
  | mark => cases h1
  | sh l x =>
    cases x with
    | tab k ns => obtain ⟨b, c, e, _⟩ := hr; subst e; rfl
    | eat k ns i => obtain ⟨_, _, b, e, _⟩ := hr; subst e; rfl
    | rows e xss => obtain ⟨A, c, e, _⟩ := hr; subst e; rfl
    | ear e xss i => obtain ⟨_, _, b, o, e, _⟩ := hr; subst e; rfl
  | nil => have : v = _ := hr; subst this; rfl
  | int k n => have : v = _ := hr; subst this; rfl
  | bool b => have : v = _ := hr; subst this; rfl
  | str l => have : v = _ := hr; subst this; rfl
  | sl e E xs => obtain ⟨A, c, e, _⟩ := hr; subst e; rfl
  | slo j => exact hr.2
  | ea ow e E xs i =>
    cases ow with
    | none => obtain ⟨_, _, b, o, e, _⟩ := hr; subst e; rfl
    | some j => obtain ⟨_, _, b, _, _, e, _⟩ := hr; subst e; rfl
  | ref j o => obtain ⟨b, _, e⟩ := hr; subst e; rfl
  | clo f caps => have : v = _ := hr; subst this; rfl

theorem oneCell_cells {v : Value} (h : v.oneCell' = true) : v.cells = #[v] := by cases v <;> first | rfl | cases h

theorem fill_agg {place : Nat → Option (Nat × Nat)} {n : Nat} (hp : ∀ k, k < n → place k = some (k, 1)) : ∀ (ps : List (Nat × SV)) (vs : List (Nat × Value)) (cs : List SV) (xs : Array Value) (out : List SV), aggSet cs ps = some out → ps.length = vs.length →
    (∀ (i k : Nat) sv, ps[i]? = some (k, sv) → ∃ v, vs[i]? = some (k, v) ∧ rep g w sv v) → xs.size = cs.length → cs.length = n → (∀ (i : Nat) sv, cs[i]? = some sv → rep g w sv (xs.getD i undef)) →
    ∃ ys, Instr.fill place xs vs = some ys ∧ ys.size = out.length ∧ ∀ (i : Nat) sv, out[i]? = some sv → rep g w sv (ys.getD i undef)
  | [], vs, cs, xs, out, ha, hl, hv, hs, hn, hr => by
    cases ha
    have : vs = [] := List.eq_nil_of_length_eq_zero (by simpa using hl.symm)
    subst this
    exact ⟨xs, rfl, hs, hr⟩
  | (k, sv) :: ps, vs, cs, xs, out, ha, hl, hv, hs, hn, hr => by
    obtain ⟨v, hv0, hrv⟩ := hv 0 k sv rfl
    cases vs with
    | nil => cases hv0
    | cons y vs =>
      simp only [List.getElem?_cons_zero, Option.some.injEq] at hv0
      subst hv0
      unfold aggSet at ha
      cases hc : (Nat.blt k cs.length && oneSV sv) with
      | false => rw [hc] at ha; cases ha
      | true =>
        rw [hc] at ha
        simp only [cond_true] at ha
        simp only [Bool.and_eq_true] at hc
        have hk : k < cs.length := by simpa using hc.1
        have hcell := oneCell_cells (one_of_rep hc.2 hrv)
        unfold Instr.fill
        rw [hp k (by omega)]
        simp only [hcell, List.size_toArray, List.length_cons, List.length_nil]
        rw [if_neg (by simp; omega)]
        have hfold : (#[v].zipIdx.foldl (fun cs (c, j) => cs.setIfInBounds (k + j) c) xs) = xs.setIfInBounds k v := by simp
        rw [hfold]
        refine fill_agg hp ps vs (cs.set k sv) (xs.setIfInBounds k v) out ha (by simpa using hl) (fun i k' sv' h => ?_) (by simpa using hs) (by simpa using hn) fun i u hi => ?_
        · obtain ⟨u, h1, h2⟩ := hv (i + 1) k' sv' (by simpa using h)
          exact ⟨u, by simpa using h1, h2⟩
        · rw [Array.getD_eq_getD_getElem?, Array.getElem?_setIfInBounds]
          rw [List.getElem?_set] at hi
          by_cases hik : k = i
          · subst hik
            simp only [if_true, hk] at hi
            cases hi
            simp only [if_true, show k < xs.size by omega]
            exact hrv
          · rw [if_neg hik] at hi
            simp only [hik, if_false]
            have := hr i u hi
            rwa [Array.getD_eq_getD_getElem?] at this

theorem run_places' {P : Program} {w : World} : ∀ (fs : List Field) (n : Nat), (∀ (k : Nat) (f : Field), fs[k]? = some f → f.offset = n + k ∧ ∃ j, P.info? f.type = some j ∧ j.size = 1) →
    (fs.mapM fun f => (Prod.mk f.offset <$> sizeOf f.type : Sem (Nat × Nat))).run P w = .ok ((List.range' n fs.length).map fun k => (k, 1)) w
  | [], n, _ => by simp
  | f :: r, n, h => by
    obtain ⟨h1, j, h2, h3⟩ := h 0 f rfl
    have ih := run_places' (P := P) (w := w) r (n + 1) fun k f hk => by
      have := h (k + 1) f (by simpa using hk)
      exact ⟨by omega, this.2⟩
    simp only [List.mapM_cons, Sem.run_bind, Sem.run_map, run_size h2, Result.andThen_ok, Sem.run_pure, ih, h3, h1, List.length_cons, List.range'_succ, List.map_cons, Nat.add_zero]

include hV in
/-- THE LAW of operations that leave memory alone. -/
theorem run_loadAgg {t : TypeId} {zs : List SV} (ht : V.agg t = some zs) {b o : Nat} {vs : List Value} (hl : vs.length = zs.length) (hc : ∀ (j : Nat) v, vs[j]? = some v → w.cell? ⟨b, o + j, none⟩ = some v) :
    (Instr.loadAt t (.pointer (some ⟨b, o, none⟩))).run V.P w = .ok (.agg vs.toArray) w := by
  obtain ⟨i, hi, hsz⟩ := hV.aggSize t zs ht
  obtain ⟨_, _, _, _, _, _, hu⟩ := hV.agg t zs ht
  have ha : (isAgg t).run V.P w = .ok true w := by
    rcases hu with ⟨fs, hu, _⟩ | ⟨n, e, hu, _⟩ <;> simp [isAgg, run_under hu]
  have hs : (sizeOf t).run V.P w = .ok vs.length w := by rw [run_size hi, hsz, hl]
  have hload := run_loadCells_list (P := V.P) w ⟨b, o, none⟩ vs fun j v hj => by rw [add_lit']; exact hc j v hj
  simp [Instr.loadAt, Instr.sureAddr, loadVar, ha, hs, hload]

theorem rowOf_rep {ns : List Int} : ∀ (n o i : Nat) (sv : SV), (rowOf ns o n)[i]? = some sv → i < n ∧ sv = .int .i64 (ns.getD (o + i) 0)
  | 0, o, i, sv, h => by simp [rowOf] at h
  | n + 1, o, 0, sv, h => by simp [rowOf] at h; exact ⟨by omega, h.symm⟩
  | n + 1, o, i + 1, sv, h => by
    simp only [rowOf, List.getElem?_cons_succ] at h
    obtain ⟨h1, h2⟩ := rowOf_rep n (o + 1) i sv h
    exact ⟨by omega, by rw [h2, Nat.add_right_comm o 1 i, Nat.add_assoc]⟩

theorem rowOf_length (ns : List Int) : ∀ (n o : Nat), (rowOf ns o n).length = n
  | 0, o => rfl
  | n + 1, o => by simp [rowOf, rowOf_length ns n]

include hV in
theorem opVal_sound (h : Rel nt w0 κ0 C0 hd0 g s a w) (o : Oper) (av : AV) (ho : opVal V s o = some (true, av)) :
    ∃ v, (execOp a.eval o).run V.P w = .ok (.value v) w ∧ repA g w av v := by
  obtain ⟨dst, op, type, pos, after, guard⟩ := o
  cases op with
  | move x => simp only [opVal, Option.some.injEq, Prod.mk.injEq] at ho; exact ⟨_, rfl, ho.2 ▸ ev_rep h x⟩
  | assign x => simp only [opVal, Option.some.injEq, Prod.mk.injEq] at ho; exact ⟨_, rfl, ho.2 ▸ ev_rep h x⟩
  | pick c x y =>
    simp only [opVal] at ho
    split at ho
    · rename_i b hb
      have hb : a.eval c = .bool b := evs_of h hb
      simp only [Option.some.injEq, Prod.mk.injEq] at ho
      obtain ⟨-, rfl⟩ := ho
      cases b with
      | true => exact ⟨a.eval x, by simp [execOp, hb, asBool], ev_rep h x⟩
      | false => exact ⟨a.eval y, by simp [execOp, hb, asBool], ev_rep h y⟩
    · cases ho
  | build t parts =>
    simp only [opVal] at ho
    split at ho
    · rename_i zs hz
      split at ho
      · rename_i cs hcs
        simp only [Option.some.injEq, Prod.mk.injEq] at ho
        obtain ⟨-, rfl⟩ := ho
        obtain ⟨i, zc, hi, hzv, hzs, hzr, hu⟩ := hV.agg t zs hz
        have key : ∀ place : Nat → Option (Nat × Nat), (∀ k, k < zs.length → place k = some (k, 1)) → ∃ ys, Instr.fill place zc (parts.map fun (i, x) => (i, a.eval x)).toList = some ys ∧ ys.size = cs.length ∧ ∀ (i : Nat) sv, cs[i]? = some sv → rep g w sv (ys.getD i undef) := by
          intro place hp
          refine fill_agg hp _ _ zs zc cs hcs (by simp) (fun i k sv hk => ?_) hzs rfl fun i sv hk => hzr i sv hk g w
          rw [List.getElem?_map] at hk
          cases hq : parts.toList[i]? with
          | none => rw [hq] at hk; cases hk
          | some p =>
            rw [hq] at hk
            cases hk
            exact ⟨a.eval p.2, by simp only [Array.toList_map, List.getElem?_map, hq]; rfl, evs_rep h p.2⟩
        rcases hu with ⟨fs, hu, hfl, hfs⟩ | ⟨n, e, hu, j, hj, hsz⟩
        · have hpl := run_places' (P := V.P) (w := w) fs.toList 0 fun k f hk => by
            have := hfs k f (by simpa using hk)
            exact ⟨by omega, this.2⟩
          obtain ⟨ys, h1, h2, h3⟩ := key (((List.range' 0 fs.toList.length).map fun k => (k, 1)).toArray[·]?) (fun k hk => by
            have : k < fs.size := by omega
            simp [this])
          refine ⟨.agg ys, ?_, ys, rfl, h2, h3⟩
          simp [execOp, Instr.build, run_under hu, zeroValue, typeInfo, hi, hzv, Array.mapM_eq_mapM_toList, hpl, Value.cells]
          simp at h1
          rw [h1]
          simp
        · obtain ⟨ys, h1, h2, h3⟩ := key (fun i => some (i * j.size, j.size)) (fun k hk => by simp [hsz])
          refine ⟨.agg ys, ?_, ys, rfl, h2, h3⟩
          simp [execOp, Instr.build, run_under hu, zeroValue, typeInfo, hi, hzv, run_size hj, Value.cells]
          simp at h1
          rw [h1]
          simp
      · cases ho
    · cases ho
  | nilCheck x =>
    simp only [opVal] at ho
    split at ho
    · rename_i j i hx
      obtain ⟨b, h1, h2⟩ := evs_of h hx
      simp only [Option.some.injEq, Prod.mk.injEq] at ho
      refine ⟨.pointer (some ⟨b, i, none⟩), ?_, ho.2 ▸ ⟨b, h1, rfl⟩⟩
      simp [execOp, h2]
    · cases ho
  | binOp op t x y yt =>
    simp only [opVal] at ho
    split at ho
    · rename_i k m k' n hx hy
      have e1 : a.eval x = .int k m := evs_of h hx
      have e2 : a.eval y = .int k' n := evs_of h hy
      cases hk : decide (k = k') with
      | false => rw [hk] at ho; cases ho
      | true =>
        have hk' : k = k' := by simpa using hk
        subst hk'
        rw [hk] at ho
        simp only [cond_true] at ho
        split at ho
        · rename_i c r hr
          simp only [Option.some.injEq, Prod.mk.injEq] at ho
          obtain ⟨rfl, rfl⟩ := ho
          obtain ⟨v, hv, hrep⟩ := run_binI (P := V.P) (w := w) op k m n r hr t
          refine ⟨v, ?_, hrep g w⟩
          have hg : (eqGuard op t x y (.int k m) (.int k n)).run V.P w = .ok () w := by
            unfold eqGuard; split <;> simp
          simp [execOp, e1, e2, hg, hv]
        · cases ho
    · rename_i m n hx hy
      have e1 : a.eval x = .string ⟨m.toArray⟩ := evs_of h hx
      have e2 : a.eval y = .string ⟨n.toArray⟩ := evs_of h hy
      split at ho
      · rename_i c r hr
        simp only [Option.some.injEq, Prod.mk.injEq] at ho
        obtain ⟨rfl, rfl⟩ := ho
        obtain ⟨v, hv, hrep⟩ := run_binS (P := V.P) (w := w) op m n r hr t
        refine ⟨v, ?_, hrep g w⟩
        have hg : (eqGuard op t x y (.string ⟨m.toArray⟩) (.string ⟨n.toArray⟩)).run V.P w = .ok () w := by
          unfold eqGuard; split <;> simp
        simp [execOp, e1, e2, hg, hv]
      · cases ho
    · rename_i m n hx hy
      have e1 : a.eval x = .bool m := evs_of h hx
      have e2 : a.eval y = .bool n := evs_of h hy
      cases ht : V.isBool t with
      | false => rw [ht] at ho; cases ho
      | true =>
        rw [ht] at ho
        simp only [cond_true] at ho
        have hu := hV.isBool t ht
        have hg : (eqGuard op t x y (.bool m) (.bool n)).run V.P w = .ok () w := by
          unfold eqGuard; split <;> simp
        cases op <;> simp only [binB, reduceCtorEq] at ho
        case eql =>
          simp only [Option.some.injEq, Prod.mk.injEq] at ho
          refine ⟨.bool (m == n), ?_, ho.2 ▸ rfl⟩
          simp [execOp, e1, e2, hg, binOp, run_equal_bool w t m n hu]
        case neq =>
          simp only [Option.some.injEq, Prod.mk.injEq] at ho
          refine ⟨.bool (m != n), ?_, ho.2 ▸ rfl⟩
          simp [execOp, e1, e2, hg, binOp, run_equal_bool w t m n hu, bne]
    · rename_i l e E xs hx hy
      obtain ⟨A, c, e1, _, e3⟩ := evs_of h hx
      have e2 : a.eval y = .slice none 0 0 := evs_of h hy
      cases ht : V.slice t with
      | none => rw [ht] at ho; cases ho
      | some te =>
        rw [ht] at ho
        simp only [Option.isSome_some, cond_true] at ho
        have hu := (hV.slice t te.1 te.2 ht).1
        have hg : (eqGuard op t x y (.slice A xs.length c) (.slice none 0 0)).run V.P w = .ok () w := by
          unfold eqGuard; split <;> simp
        have hA : isNe xs = true → A.isNone = false := fun hne => by
          obtain ⟨b, o, h1, _⟩ := e3 (fun e => by subst e; cases hne)
          rw [h1]; rfl
        cases op <;> simp only [binN, reduceCtorEq] at ho
        case eql =>
          simp only [Option.some.injEq, Prod.mk.injEq] at ho
          refine ⟨.bool false, ?_, ho.2 ▸ rfl⟩
          simp [execOp, e1, e2, hg, binOp, run_equal_slice_nil w t te.1 A xs.length c hu, hA ho.1]
        case neq =>
          simp only [Option.some.injEq, Prod.mk.injEq] at ho
          refine ⟨.bool true, ?_, ho.2 ▸ rfl⟩
          simp [execOp, e1, e2, hg, binOp, run_equal_slice_nil w t te.1 A xs.length c hu, hA ho.1]
    · cases ho
  | unOp op t x =>
    simp only [opVal] at ho
    split at ho
    · rename_i k n hx
      have e1 : a.eval x = .int k n := evs_of h hx
      simp only [Option.some.injEq, Prod.mk.injEq] at ho
      exact ⟨.int k (k.wrap (0 - n)), by simp [execOp, e1, Op.unary, Op.intArith], ho.2 ▸ rfl⟩
    · rename_i b hx
      have e1 : a.eval x = .bool b := evs_of h hx
      simp only [Option.some.injEq, Prod.mk.injEq] at ho
      exact ⟨.bool (!b), by simp [execOp, e1, Op.unary], ho.2 ▸ rfl⟩
    · cases ho
  | convert src dst' x =>
    simp only [opVal] at ho
    split at ho
    · rename_i k' n hx
      have e1 : a.eval x = .int k' n := evs_of h hx
      split at ho
      · rename_i k0 k hk0 hk
        simp only [Option.some.injEq, Prod.mk.injEq] at ho
        have hu := hV.intk dst' k hk
        have hu0 := hV.intk src k0 hk0
        exact ⟨.int k (k.wrap n), by simp [execOp, e1, convert, run_under hu, run_under hu0, Conv.intToInt], ho.2 ▸ rfl⟩
      · cases ho
    · rename_i e E xs hx
      obtain ⟨A, c, h1, h2, h3⟩ := evs_of h hx
      split at ho
      · rename_i e' l hs hb
        cases ht : V.isStr dst' with
        | false => rw [ht] at ho; cases ho
        | true =>
          rw [ht] at ho
          simp only [cond_true, Option.some.injEq, Prod.mk.injEq] at ho
          have hE := bytesOf_int hb
          subst hE
          refine ⟨.string ⟨l.toArray⟩, ?_, ho.2 ▸ rfl⟩
          exact run_strof hV hs ht h w h1 (fun hne => by
            obtain ⟨b, o, hA, _, hc⟩ := h3 hne
            exact ⟨⟨b, o, none⟩, hA, fun i u hi => by rw [add_lit']; exact hc i u hi⟩) hb
      · cases ho
    · rename_i j hx
      have e1 : a.eval x = g.hd j := (evs_of h hx).1
      split at ho
      · rename_i e E xs hH
        split at ho
        · rename_i e' l hs hb
          cases ht : V.isStr dst' with
          | false => rw [ht] at ho; cases ho
          | true =>
            rw [ht] at ho
            simp only [cond_true, Option.some.injEq, Prod.mk.injEq] at ho
            have hE := bytesOf_int hb
            subst hE
            refine ⟨.string ⟨l.toArray⟩, ?_, ho.2 ▸ rfl⟩
            obtain ⟨ho1, _⟩ := h.ok.obs j _ hH
            rcases ho1.2 with ⟨hnil, hz⟩ | ⟨b, cap, cur, hv, _⟩
            · exact run_strof hV hs ht h w (A := none) (c := 0) (by rw [e1, hnil, hz]) (fun hne => absurd (List.eq_nil_of_length_eq_zero hz) hne) hb
            · refine run_strof hV hs ht h w (by rw [e1, hv]) (fun hne => ⟨⟨b, 0, none⟩, rfl, fun i u hi => ?_⟩) hb
              have ho2 : w.ownsRow 0 e 1 (g.hd j) (xs.map (El.int .u8).enc).length (xs.map (El.int .u8).enc) := by rw [List.length_map]; exact ho1
              rw [add_lit', Nat.zero_add]
              exact own_cell ho2 (by rw [hv]; rfl) _ (by rw [List.getElem?_map, hi]; rfl)
        · cases ho
      · cases ho
    · cases ho
  | slice t x lo hi mx =>
    simp only [opVal] at ho
    split at ho
    · cases ho
    · split at ho
      · rename_i l hx
        have e1 : a.eval x = .string ⟨l.toArray⟩ := evs_of h hx
        split at ho
        · rename_i p q hp hq
          cases ht : V.isStr t with
          | false => rw [ht] at ho; cases ho
          | true =>
            rw [ht] at ho
            simp only [cond_true, Option.some.injEq, Prod.mk.injEq, Bool.and_eq_true, decide_eq_true_eq] at ho
            obtain ⟨⟨⟨h0, h1⟩, h2⟩, rfl⟩ := ho
            refine ⟨.string ⟨((l.take q.toNat).drop p.toNat).toArray⟩, ?_, rfl⟩
            have hb := run_bounds (P := V.P) h false l.length l.length lo hi p q hp hq h0 h1 h2 (Nat.le_refl _)
            simp only [execOp, e1]
            simp only [Sem.run_bind, Instr.sliceAt, run_under (hV.isStr t ht), Result.andThen_ok, Instr.slice, str_size, Option.map_none]
            simp only [Sem.run_bind, Sem.run_pure, Option.isSome_none, Bool.false_eq_true, if_false, hb, Result.andThen_ok, drop_take_str l p.toNat q.toNat]
        · cases ho
      · rename_i e E xs hx
        obtain ⟨A, c, e1, e2, e3⟩ := evs_of h hx
        split at ho
        · rename_i e' E' p q hs hp hq
          cases he : Nat.beq e e' with
          | false => rw [he] at ho; cases ho
          | true =>
            rw [he] at ho
            simp only [cond_true, Option.some.injEq, Prod.mk.injEq, Bool.and_eq_true, decide_eq_true_eq] at ho
            obtain ⟨⟨⟨h0, h1⟩, h2⟩, rfl⟩ := ho
            obtain ⟨hu, ti, hinfo, hsz, _⟩ := hV.slice t e' E' hs
            have hb := run_bounds (P := V.P) h true xs.length c lo hi p q hp hq h0 h1 h2 e2
            have hlen : ((xs.take q.toNat).drop p.toNat).length = q.toNat - p.toNat := by
              rw [List.length_drop, List.length_take, Nat.min_eq_left (by omega)]
            refine ⟨.slice (if c = p.toNat then A else A.map (·.add (p.toNat * 1))) (q.toNat - p.toNat) (c - p.toNat), ?_, ?_⟩
            · simp only [execOp, e1]
              simp only [Sem.run_bind, Instr.sliceAt, run_under hu, Result.andThen_ok, Instr.slice, Option.map_none]
              simp only [Sem.run_bind, Sem.run_pure, hb, Result.andThen_ok, run_size hinfo, hsz]
            · refine ⟨_, c - p.toNat, by rw [hlen], by rw [hlen]; omega, fun hne => ?_⟩
              have hlt : p.toNat < q.toNat := by
                have : ((xs.take q.toNat).drop p.toNat).length ≠ 0 := fun hz => hne (List.eq_nil_of_length_eq_zero hz)
                omega
              have hxne : xs ≠ [] := fun hz => by subst hz; simp at h2; omega
              obtain ⟨b, o, rfl, hκ, hc⟩ := e3 hxne
              rw [if_neg (by omega)]
              refine ⟨b, o + p.toNat, by simp [add_lit'], hκ, fun i u hi => ?_⟩
              rw [List.getElem?_drop] at hi
              have hi' : xs[p.toNat + i]? = some u := by
                rw [List.getElem?_take] at hi
                split at hi
                · exact hi
                · cases hi
              rw [Nat.add_assoc]
              exact hc _ u hi'
        · cases ho
      · cases ho
  | extract x i =>
    simp only [opVal] at ho
    split at ho
    · rename_i vs hx
      have hr : repA g w (.tup vs) (a.eval x) := hx ▸ ev_rep h x
      obtain ⟨xs, h1, h2, h3⟩ := hr
      split at ho
      · rename_i v hv
        simp only [Option.some.injEq, Prod.mk.injEq] at ho
        have hlt : i < xs.size := by rw [h2]; exact (List.getElem?_eq_some_iff.1 hv).1
        obtain ⟨_, rfl⟩ := ho
        refine ⟨xs[i], by simp [execOp, h1, Instr.extract, hlt], ?_⟩
        have := h3 i v hv
        rw [Array.getD_eq_getD_getElem?, Array.getElem?_eq_getElem hlt] at this
        exact this
      · cases ho
    · cases ho
  | fieldAddr t x f =>
    simp only [opVal] at ho
    split at ho
    · rename_i j i off hx hf
      obtain ⟨b, h1, h2⟩ := evs_of h hx
      obtain ⟨fs, fd, ti, hu, hfs, hoff, hinfo, hsz⟩ := hV.field t f off hf
      simp only [Option.some.injEq, Prod.mk.injEq] at ho
      refine ⟨.pointer (some ⟨b, i + off, none⟩), ?_, ho.2 ▸ ⟨b, h1, rfl⟩⟩
      simp [execOp, h2, Instr.fieldAt, run_under hu, hfs, Instr.sureAddr, fieldPlace, run_size hinfo, hsz, hoff, add_lit']
    · cases ho
  | indexAddr t x i =>
    simp only [opVal] at ho
    split at ho
    · rename_i e E l e' E' xs k n ht hx hi
      have e2 : a.eval i = .int k n := evs_of h hi
      obtain ⟨A, c, h1, h2, h3⟩ := evs_of h hx
      obtain ⟨hu, ti, hinfo, hsz, _⟩ := hV.slice t e E ht
      cases he : Nat.beq e e' with
      | false => rw [he] at ho; cases ho
      | true =>
        rw [he] at ho
        simp only [cond_true, Option.some.injEq, Prod.mk.injEq, Bool.and_eq_true, decide_eq_true_eq] at ho
        obtain ⟨⟨hn0, hn1⟩, rfl⟩ := ho
        have hne : xs ≠ [] := fun e => by subst e; simp at hn1; omega
        obtain ⟨b, o, rfl, hκ, hc⟩ := h3 hne
        refine ⟨.pointer (some ⟨b, o + n.toNat, none⟩), ?_, ⟨hn0, hn1, b, o + n.toNat, rfl, hκ.imp fun _ h => h.2, ?_⟩⟩
        · simp only [execOp, h1, e2]
          simp [run_index_slice hu hinfo hsz w b o xs.length c k n hn0 hn1]
        · have hlt : n.toNat < xs.length := by omega
          exact hc n.toNat _ (by simp [hlt])
    · rename_i e E j k n ht hx hi
      have e2 : a.eval i = .int k n := evs_of h hi
      have e1 : a.eval x = g.hd j := (evs_of h hx).1
      obtain ⟨hu, ti, hinfo, hsz, _⟩ := hV.slice t e E ht
      split at ho
      · rename_i e' E' xs hH
        cases he : Nat.beq e e' with
        | false => rw [he] at ho; cases ho
        | true =>
          rw [he] at ho
          simp only [cond_true, Option.some.injEq, Prod.mk.injEq, Bool.and_eq_true, decide_eq_true_eq] at ho
          obtain ⟨⟨hn0, hn1⟩, rfl⟩ := ho
          obtain ⟨ho1, ho2⟩ := h.ok.obs j _ hH
          rcases ho1.2 with ⟨hnil, hz⟩ | ⟨b, cap, cur, hv, _, hb, hnc, hcm, hcs, htake⟩
          · exfalso; omega
          · refine ⟨.pointer (some ⟨b, n.toNat, none⟩), ?_, ⟨hn0, hn1, b, by rw [hv]; rfl, ho2 b (by rw [hv]; rfl), rfl, ho1⟩⟩
            have := run_index_slice hu hinfo hsz w b 0 xs.length cap k n hn0 hn1
            rw [Nat.zero_add] at this
            simp only [execOp, e1, e2, hv]
            simp [this]
      · cases ho
    · rename_i j o k n hx hi
      have e2 : a.eval i = .int k n := evs_of h hi
      obtain ⟨b, h1, h2⟩ := evs_of h hx
      split at ho
      · rename_i m hm
        simp only [Option.some.injEq, Prod.mk.injEq, Bool.and_eq_true, decide_eq_true_eq] at ho
        obtain ⟨⟨hn0, hn1⟩, rfl⟩ := ho
        obtain ⟨e, ej, hu, hej, hsz⟩ := hV.arr t m hm
        refine ⟨.pointer (some ⟨b, o + n.toNat, none⟩), ?_, b, h1, rfl⟩
        simp only [execOp, h2, e2]
        simp [Instr.indexAt, asIntOf, run_under hu, Instr.sureAddr, run_size hej, hsz, hn0, hn1, add_lit']
      · cases ho
    · rename_i l k' ns k n hx hi
      have e2 : a.eval i = .int k n := evs_of h hi
      obtain ⟨b, c, h1, h2, h3, h4⟩ := evs_of h hx
      split at ho
      · rename_i e m hm
        cases hmk : Nat.beq m k' with
        | false => rw [hmk] at ho; cases ho
        | true =>
          rw [hmk] at ho
          have hmk' := Nat.eq_of_beq_eq_true hmk
          subst hmk'
          simp only [cond_true, Option.some.injEq, Prod.mk.injEq, Bool.and_eq_true, decide_eq_true_eq] at ho
          obtain ⟨⟨hn0, hn1⟩, rfl⟩ := ho
          obtain ⟨hu, _, ti, cs, hti, hsz, _⟩ := hV.tab t e m hm
          refine ⟨.pointer (some ⟨b, n.toNat * m, none⟩), ?_, hn0, hn1, b, rfl, h3, h4⟩
          simp only [execOp, h1, e2]
          have hn1' : n < (((ns.length / m : Nat)) : Int) := hn1
          simp [Instr.indexAt, asIntOf, run_under hu, run_size hti, hsz, hn0, add_lit']
          intro hcon
          omega
      · cases ho
    · rename_i l e' xss k n hx hi
      have e2 : a.eval i = .int k n := evs_of h hi
      obtain ⟨A, c, h1, h2, _, h3⟩ := evs_of h hx
      split at ho
      · rename_i e1 e2' hm
        cases he : Nat.beq e' e2' with
        | false => rw [he] at ho; cases ho
        | true =>
          rw [he] at ho
          simp only [cond_true, Option.some.injEq, Prod.mk.injEq, Bool.and_eq_true, decide_eq_true_eq] at ho
          obtain ⟨⟨hn0, hn1⟩, rfl⟩ := ho
          obtain ⟨hu, ti, v0, hti, hsz, _⟩ := hV.rows t e1 e2' hm
          have hne : xss ≠ [] := fun e => by subst e; simp at hn1; omega
          obtain ⟨b, o, rfl, hκ, hc⟩ := h3 hne
          have hlt : n.toNat < xss.length := by omega
          refine ⟨.pointer (some ⟨b, o + n.toNat, none⟩), ?_, hn0, hn1, b, o + n.toNat, rfl, hκ, hc n.toNat _ (by rw [List.getD_eq_getElem?_getD, List.getElem?_eq_getElem hlt]; rfl)⟩
          simp only [execOp, h1, e2]
          simp [run_index_slice hu hti hsz w b o xss.length c k n hn0 hn1]
      · cases ho
    · cases ho
  | load t x =>
    simp only [opVal] at ho
    split at ho
    · rename_i ow e E xs i hx
      cases ht : V.one t with
      | false => rw [ht] at ho; cases ho
      | true =>
        rw [ht] at ho
        simp only [cond_true, Option.some.injEq, Prod.mk.injEq] at ho
        obtain ⟨⟨d, hu, hd⟩, _⟩ := hV.one t ht
        have hr := evs_of h hx
        obtain ⟨_, rfl⟩ := ho
        cases ow with
        | none =>
          obtain ⟨h0, h1, b, o, h2, h3, h4⟩ := hr
          refine ⟨E.enc (xs.getD i.toNat E.zero), ?_, av_rep g w E _⟩
          simp only [execOp, h2]
          simp [run_loadAt1 hu hd h4]
        | some j =>
          obtain ⟨h0, h1, b, h2, h3, h4, h5⟩ := hr
          refine ⟨E.enc (xs.getD i.toNat E.zero), ?_, av_rep g w E _⟩
          have h5' : w.ownsRow 0 e 1 (g.hd j) (xs.map E.enc).length (xs.map E.enc) := by rw [List.length_map]; exact h5
          have hc := own_cell h5' h2 _ (getD_enc E xs i.toNat (by omega))
          simp only [execOp, h4]
          simp [run_loadAt1 hu hd hc]
    · rename_i j i hx
      obtain ⟨b, h1, h2⟩ := evs_of h hx
      split at ho
      · rename_i ty cs hH
        cases ht : (V.one t && Nat.blt i cs.length) with
        | false =>
          rw [ht] at ho
          simp only [cond_false] at ho
          split at ho
          · rename_i zs hz
            cases hk : (Nat.beq i 0 && Nat.beq zs.length cs.length) with
            | false => rw [hk] at ho; cases ho
            | true =>
              rw [hk] at ho
              simp only [cond_true, Option.some.injEq, Prod.mk.injEq] at ho
              obtain ⟨_, rfl⟩ := ho
              rw [Bool.and_eq_true] at hk
              have hi0 : i = 0 := Nat.eq_of_beq_eq_true hk.1
              have hzl : zs.length = cs.length := Nat.eq_of_beq_eq_true hk.2
              subst hi0
              obtain ⟨b', vs, k1, k2, k3, k4, k5⟩ := h.ok.obs j _ hH
              rw [h1] at k1
              cases k1
              refine ⟨.agg vs, ?_, vs, rfl, k4, k5⟩
              simp only [execOp, h2]
              have := run_loadAgg hV hz (w := w) (b := b) (o := 0) (vs := vs.toList) (by simp [k4, hzl]) fun j v hj => by
                rw [Nat.zero_add, cell_of_row w b j vs ty (0, 0) k3]
                simpa using hj
              simp [this]
          · cases ho
        | true =>
          rw [ht] at ho
          simp only [cond_true, Option.some.injEq, Prod.mk.injEq] at ho
          simp only [Bool.and_eq_true] at ht
          have hlt : i < cs.length := by simpa using ht.2
          obtain ⟨⟨d, hu, hd⟩, _⟩ := hV.one t ht.1
          obtain ⟨b', vs, k1, k2, k3, k4, k5⟩ := h.ok.obs j _ hH
          rw [h1] at k1
          cases k1
          have hvs : i < vs.size := by rw [k4]; exact hlt
          have hc : w.cell? ⟨b, i, none⟩ = some vs[i] := by
            rw [cell_of_row w b i vs ty (0, 0) k3]
            exact Array.getElem?_eq_getElem hvs
          obtain ⟨_, rfl⟩ := ho
          refine ⟨vs[i], ?_, ?_⟩
          · simp only [execOp, h2]
            simp [run_loadAt1 hu hd hc]
          · have := k5 i (cs.getD i .undef) (by simp [hlt])
            rw [Array.getD_eq_getD_getElem?, Array.getElem?_eq_getElem hvs] at this
            exact this
      · cases ho
    · rename_i l k ns i hx
      obtain ⟨h0, h1, b, h2, h3, h4⟩ := evs_of h hx
      split at ho
      · rename_i zs hz
        cases hk : Nat.beq zs.length k with
        | false => rw [hk] at ho; cases ho
        | true =>
          rw [hk] at ho
          have hk' := Nat.eq_of_beq_eq_true hk
          simp only [cond_true, Option.some.injEq, Prod.mk.injEq] at ho
          obtain ⟨_, rfl⟩ := ho
          have hbound : i.toNat * k + k ≤ ns.length := by
            have : (i.toNat + 1) * k ≤ ns.length / k * k := Nat.mul_le_mul_right _ (by omega)
            have := Nat.div_mul_le_self ns.length k
            rw [Nat.add_mul, Nat.one_mul] at *
            omega
          have hval : ∀ j, j < k → w.cell? ⟨b, i.toNat * k + j, none⟩ = some (.int .i64 (ns.getD (i.toNat * k + j) 0)) := fun j hj => h4 _ _ (by rw [List.getD_eq_getElem?_getD, List.getElem?_eq_getElem (by omega)]; rfl)
          refine ⟨.agg ((List.range k).map fun j => Value.int .i64 (ns.getD (i.toNat * k + j) 0)).toArray, ?_, _, rfl, by simp [rowOf_length], fun j sv hj => ?_⟩
          · simp only [execOp, h2]
            have := run_loadAgg hV hz (w := w) (b := b) (o := i.toNat * k) (vs := (List.range k).map fun j => Value.int .i64 (ns.getD (i.toNat * k + j) 0)) (by simp [hk']) fun j v hj => by
              rw [List.getElem?_map] at hj
              cases hr : (List.range k)[j]? with
              | none => rw [hr] at hj; cases hj
              | some j' =>
                rw [hr] at hj
                obtain ⟨hjk, e⟩ := List.getElem?_eq_some_iff.1 hr
                simp only [List.getElem_range, List.length_range] at e hjk
                subst e
                cases hj
                exact hval _ hjk
            simp [this]
          · obtain ⟨hjk, rfl⟩ := rowOf_rep _ _ _ _ hj
            show _ = Value.int .i64 _
            simp [Array.getD, hjk]
      · cases ho
    · rename_i l e xss i hx
      obtain ⟨h0, h1, b, o, h2, h3, u, h4, h5⟩ := evs_of h hx
      cases ht : V.one t with
      | false => rw [ht] at ho; cases ho
      | true =>
        rw [ht] at ho
        simp only [cond_true, Option.some.injEq, Prod.mk.injEq] at ho
        obtain ⟨_, rfl⟩ := ho
        obtain ⟨⟨d, hu, hd⟩, _⟩ := hV.one t ht
        refine ⟨u, ?_, h5⟩
        simp only [execOp, h2]
        simp [run_loadAt1 hu hd h4]
    · cases ho
  | index t x i =>
    simp only [opVal] at ho
    split at ho
    · rename_i l k n hx hi
      have e1 : a.eval x = .string ⟨l.toArray⟩ := evs_of h hx
      have e2 : a.eval i = .int k n := evs_of h hi
      cases ht : V.isStr t with
      | false => rw [ht] at ho; cases ho
      | true =>
        rw [ht] at ho
        simp only [cond_true, Option.some.injEq, Prod.mk.injEq, Bool.and_eq_true, decide_eq_true_eq] at ho
        obtain ⟨⟨hn0, hn1⟩, rfl⟩ := ho
        have hlt : n.toNat < l.length := by omega
        refine ⟨.int .u8 ((l.getD n.toNat 0).toNat : Int), ?_, rfl⟩
        have hget : (⟨l.toArray⟩ : ByteArray)[n.toNat]? = some (l.getD n.toNat 0) := by
          rw [getElem?_pos (⟨l.toArray⟩ : ByteArray) n.toNat (by rw [str_size]; exact hlt)]
          simp [hlt]
          rfl
        simp only [execOp, e1, e2]
        simp [Instr.index, asIntOf, run_under (hV.isStr t ht), hn0, hget, -List.getD_eq_getElem?_getD]
    · cases ho
  | call c =>
    obtain ⟨callee, args, argTypes⟩ := c
    cases callee with
    | value f => simp only [opVal, reduceCtorEq] at ho
    | invoke r m => simp only [opVal, reduceCtorEq] at ho
    | builtin b =>
      simp only [opVal] at ho
      split at ho
      · rename_i x hargs
        have hargs' : args = #[x] := by rw [← Array.toList_inj]; exact hargs
        subst hargs'
        split at ho
        · rename_i l hx
          have e1 : a.eval x = .string ⟨l.toArray⟩ := evs_of h hx
          cases ht : V.argStr argTypes.toList with
          | false => rw [ht] at ho; cases ho
          | true =>
            rw [ht] at ho
            simp only [cond_true, Option.some.injEq, Prod.mk.injEq] at ho
            unfold Env.argStr at ht
            split at ht
            · rename_i t hts
              have hts' : argTypes = #[t] := by rw [← Array.toList_inj]; exact hts
              subst hts'
              refine ⟨.int .i64 (l.length : Int), ?_, ho.2 ▸ rfl⟩
              simp [execOp, resolve, invoke, builtin, Builtin.len_, e1, run_under (hV.isStr t ht), goInt, str_size]
            · cases ht
        · rename_i e E xs hx
          obtain ⟨A, c, h1, h2, h3⟩ := evs_of h hx
          cases ht : V.argSl argTypes.toList with
          | false => rw [ht] at ho; cases ho
          | true =>
            rw [ht] at ho
            simp only [cond_true, Option.some.injEq, Prod.mk.injEq] at ho
            unfold Env.argSl at ht
            split at ht
            · rename_i t hts
              have hts' : argTypes = #[t] := by rw [← Array.toList_inj]; exact hts
              subst hts'
              obtain ⟨⟨e', E'⟩, hs⟩ := Option.isSome_iff_exists.1 ht
              obtain ⟨hu, _⟩ := hV.slice t e' E' hs
              refine ⟨.int .i64 (xs.length : Int), ?_, ho.2 ▸ rfl⟩
              simp [execOp, resolve, invoke, builtin, Builtin.len_, h1, run_under hu, goInt]
            · cases ht
        · rename_i l k ns hx
          obtain ⟨b, c, h1, h2, h3⟩ := evs_of h hx
          cases ht : V.argTab argTypes.toList with
          | false => rw [ht] at ho; cases ho
          | true =>
            rw [ht] at ho
            simp only [cond_true, Option.some.injEq, Prod.mk.injEq] at ho
            unfold Env.argTab at ht
            split at ht
            · rename_i t hts
              have hts' : argTypes = #[t] := by rw [← Array.toList_inj]; exact hts
              subst hts'
              obtain ⟨⟨e', k'⟩, hs⟩ := Option.isSome_iff_exists.1 ht
              obtain ⟨hu, _⟩ := hV.tab t e' k' hs
              refine ⟨.int .i64 ((ns.length / k : Nat) : Int), ?_, ho.2 ▸ rfl⟩
              simp [execOp, resolve, invoke, builtin, Builtin.len_, h1, run_under hu, goInt]
            · cases ht
        · rename_i l e xss hx
          obtain ⟨A, c, h1, h2, h3⟩ := evs_of h hx
          cases ht : V.argRows argTypes.toList with
          | false => rw [ht] at ho; cases ho
          | true =>
            rw [ht] at ho
            simp only [cond_true, Option.some.injEq, Prod.mk.injEq] at ho
            unfold Env.argRows at ht
            split at ht
            · rename_i t hts
              have hts' : argTypes = #[t] := by rw [← Array.toList_inj]; exact hts
              subst hts'
              obtain ⟨⟨e', e2⟩, hs⟩ := Option.isSome_iff_exists.1 ht
              obtain ⟨hu, _⟩ := hV.rows t e' e2 hs
              refine ⟨.int .i64 (xss.length : Int), ?_, ho.2 ▸ rfl⟩
              simp [execOp, resolve, invoke, builtin, Builtin.len_, h1, run_under hu, goInt]
            · cases ht
        · rename_i j hx
          have e1 : a.eval x = g.hd j := (evs_of h hx).1
          split at ho
          · rename_i e E xs hH
            cases ht : V.argSl argTypes.toList with
            | false => rw [ht] at ho; cases ho
            | true =>
              rw [ht] at ho
              simp only [cond_true, Option.some.injEq, Prod.mk.injEq] at ho
              unfold Env.argSl at ht
              split at ht
              · rename_i t hts
                have hts' : argTypes = #[t] := by rw [← Array.toList_inj]; exact hts
                subst hts'
                obtain ⟨⟨e', E'⟩, hs⟩ := Option.isSome_iff_exists.1 ht
                obtain ⟨hu, _⟩ := hV.slice t e' E' hs
                obtain ⟨ho1, _⟩ := h.ok.obs j _ hH
                refine ⟨.int .i64 (xs.length : Int), ?_, ho.2 ▸ rfl⟩
                rcases ho1.2 with ⟨hnil, hz⟩ | ⟨b, cap, cur, hv, _⟩
                · simp [execOp, resolve, invoke, builtin, Builtin.len_, e1, hnil, hz, run_under hu, goInt]
                · simp [execOp, resolve, invoke, builtin, Builtin.len_, e1, hv, run_under hu, goInt]
              · cases ht
          · cases ho
        · cases ho
      · rename_i x y hargs
        have hargs' : args = #[x, y] := by rw [← Array.toList_inj]; exact hargs
        subst hargs'
        split at ho
        · rename_i k m k' n hx hy
          have e1 : a.eval x = .int k m := evs_of h hx
          have e2 : a.eval y = .int k' n := evs_of h hy
          simp only [Option.some.injEq, Prod.mk.injEq] at ho
          refine ⟨.int k (if n > m then n else m), ?_, ?_⟩
          · simp [execOp, resolve, invoke, builtin, Builtin.max_, Builtin.max2, e1, e2]
          · rw [← ho.2]
            by_cases hlt : m < n <;> simp [repA, rep, hlt]
        · cases ho
      · rename_i x y hargs
        have hargs' : args = #[x, y] := by rw [← Array.toList_inj]; exact hargs
        subst hargs'
        split at ho
        · rename_i k m k' n hx hy
          have e1 : a.eval x = .int k m := evs_of h hx
          have e2 : a.eval y = .int k' n := evs_of h hy
          simp only [Option.some.injEq, Prod.mk.injEq] at ho
          refine ⟨.int k (if n < m then n else m), ?_, ?_⟩
          · simp [execOp, resolve, invoke, builtin, Builtin.min_, Builtin.min2, e1, e2]
          · rw [← ho.2]
            by_cases hlt : n < m <;> simp [repA, rep, hlt]
        · cases ho
      · cases ho
  | makeFunc f first caps =>
    simp only [opVal] at ho
    split at ho
    · rename_i f js hf hc
      have hf' : first = #[] := Array.toList_inj.1 hf
      have hc' := capsOf_rep g w _ js (caps.map a.eval).toList hc (by simp) fun i sv hi => by
        rw [List.getElem?_map] at hi
        cases hx : caps.toList[i]? with
        | none => rw [hx] at hi; cases hi
        | some x =>
          rw [hx] at hi
          cases hi
          have := evs_rep h x
          simpa [List.getD_eq_getElem?_getD, hx] using this
      simp only [Option.some.injEq, Prod.mk.injEq] at ho
      refine ⟨.func (.func f) #[] (js.map g.hd).toArray, ?_, ho.2 ▸ rfl⟩
      subst hf'
      have : caps.map a.eval = (js.map g.hd).toArray := by rw [← hc']
      simp [execOp, Instr.makeFunc, this]
    · cases ho
  | _ => simp only [opVal, reduceCtorEq] at ho

end

end Go.Proofs.Ytmmadcccjicdcaa.E
