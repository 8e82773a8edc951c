/- A whole function's abstract run, and what it tells of the function's calls. -/
import Derived.Test.YtmmadcccjicdcaaE6
namespace Go.Proofs.Ytmmadcccjicdcaa.E
set_option linter.unusedVariables false
set_option linter.unusedSimpArgs false

def numSl : Nat → List SV → List (Nat × AV)
  | _, [] => []
  | k, v :: r => (k, .s v) :: numSl (k + 1) r
def numH : Nat → List Ob → List (Nat × Ob)
  | _, [] => []
  | k, v :: r => (k, v) :: numH (k + 1) r
def upto : Nat → Nat → List Nat
  | _, 0 => []
  | k, n + 1 => k :: upto (k + 1) n
def prefixB : List Nat → List Nat → Bool
  | [], _ => true
  | a :: r, b :: l => Nat.beq a b && prefixB r l
  | _ :: _, [] => false

def retSV (s : St) : List ResultVar → Option (List SV)
  | [] => some []
  | .tmp t :: r => match s.get t, retSV s r with | .s v, some vs => cond v.isMark none (some (v :: vs)) | _, _ => none
  | .cell .. :: _ => none

/-- What a function hands back; a struct in a cell of its own as a whole. -/
def retAll (V : Env) (s : St) : List ResultVar → Option (List SV)
  | [.cell t ty] =>
    match s.get t with
    | .s (.ref j 0) =>
      match look s.H j with
      | some (.cells _ cs) =>
        match V.agg ty with
        | some zs => cond (Nat.beq zs.length cs.length && Nat.blt 0 cs.length) (some (.mark :: cs)) none
        | none => none
      | _ => none
    | _ => none
  | rs => retSV s rs

def finish {R : Type} (s : St) (m : Nat) (res : List SV) (K : List SV → List Ob → Option R) : Option R :=
  let ids := reach s.H 64 (upto 0 m ++ svIds res) []
  match getObs s.H ids ids with
  | none => none
  | some objs => cond (prefixB (upto 0 m) ids && nodupB ids) (K (res.map (SV.ren fun j => pos ids j 0)) objs) none

def endK {R : Type} (V : Env) (rs : List ResultVar) (m : Nat) (K : List SV → List Ob → Option R) (e : Exit) (s : St) : Option R :=
  match e with
  | .normal => match retAll V s rs with | some res => finish s m res K | none => none
  | .ret => match retAll V s rs with | some res => finish s m res K | none => none
  | _ => none

def evF {R : Type} (T : Tab R) (V : Env) (A : Ann) (D : Nat → Array Oper → St → (St → Option R) → Option R) (L : Code → St → (Exit → St → Option R) → Option R) (nt : Nat) (rs : List ResultVar) (c : Code) : CF R := fun args objs K =>
  cond (Nat.ble args.length nt && Nat.blt objs.length 1000) (evk T V A nt (D nt) L c ⟨numSl 0 args, numH 0 objs⟩ (endK V rs objs.length K)) none

theorem numSl_look : ∀ (l : List SV) (k t : Nat), look (numSl k l) t = if k ≤ t then (l[t - k]?).map AV.s else none
  | [], k, t => by simp [numSl, look]
  | v :: r, k, t => by
    show look ((k, .s v) :: numSl (k + 1) r) t = _
    rw [look_cons, numSl_look r (k + 1) t]
    by_cases h : k = t
    · subst h; simp
    · simp only [h, if_false]
      by_cases h2 : k ≤ t
      · rw [if_pos h2, if_pos (by omega), show t - k = (t - (k + 1)) + 1 by omega]
        simp
      · rw [if_neg h2, if_neg (by omega)]

theorem numH_look : ∀ (l : List Ob) (k t : Nat), look (numH k l) t = if k ≤ t then l[t - k]? else none
  | [], k, t => by simp [numH, look]
  | v :: r, k, t => by
    show look ((k, v) :: numH (k + 1) r) t = _
    rw [look_cons, numH_look r (k + 1) t]
    by_cases h : k = t
    · subst h; simp
    · simp only [h, if_false]
      by_cases h2 : k ≤ t
      · rw [if_pos h2, if_pos (by omega), show t - k = (t - (k + 1)) + 1 by omega]
        simp
      · rw [if_neg h2, if_neg (by omega)]

theorem prefixB_spec : ∀ (a b : List Nat), prefixB a b = true → ∀ (i x : Nat), a[i]? = some x → b[i]? = some x
  | [], _, _, i, x, h => by simp at h
  | a :: r, [], h, _, _, _ => by cases h
  | a :: r, b :: l, h, i, x, hi => by
    simp only [prefixB, Bool.and_eq_true] at h
    have := Nat.eq_of_beq_eq_true h.1
    subst this
    cases i with
    | zero => exact hi
    | succ i => exact prefixB_spec r l h.2 i x (by simpa using hi)

theorem upto_get : ∀ (n k i : Nat), i < n → (upto k n)[i]? = some (k + i)
  | 0, _, _, h => by omega
  | n + 1, k, 0, _ => rfl
  | n + 1, k, i + 1, h => by
    have := upto_get n (k + 1) i (by omega)
    show (upto (k + 1) n)[i]? = _
    rw [this]
    congr 1
    omega

def rvSem (tmps : Array Value) : ResultVar → Sem Value
  | .tmp t => pure (tmps.getD t undef)
  | .cell ad t => do loadVar t (← asAddr (tmps.getD ad undef))

theorem retSV_spec {nt : Nat} {w0 : World} {κ0 : Nat → Cls} {C0 : Nat → Prop} {hd0 : Nat → Value} {g : G} {s : St} {a : Act} {w : World} (h : Rel nt w0 κ0 C0 hd0 g s a w) (P : Program) :
    ∀ (rs : List ResultVar) (res : List SV), retSV s rs = some res → ∃ vs : List Value, vs.length = res.length ∧ (∀ i sv, res[i]? = some sv → rep g w sv (vs.getD i undef)) ∧
      (rs.mapM (rvSem a.tmps)).run P w = .ok vs w ∧ ∀ sv ∈ res, sv.isMark = false
  | [], res, hr => by
    cases hr
    exact ⟨[], rfl, fun i sv hi => by simp at hi, by simp, by simp⟩
  | .tmp t :: r, res, hr => by
    unfold retSV at hr
    split at hr
    · rename_i v vs' hv hvs
      cases hmk : v.isMark with
      | true => rw [hmk] at hr; cases hr
      | false =>
        rw [hmk] at hr
        cases hr
        obtain ⟨vs, h1, h2, h3, h4⟩ := retSV_spec h P r vs' hvs
        refine ⟨a.tmps.getD t undef :: vs, by simp [h1], fun i sv hi => ?_, ?_, fun sv hsv => ?_⟩
        · cases i with
          | zero =>
            simp only [List.getElem?_cons_zero, Option.some.injEq] at hi
            subst hi
            have := h.slots t
            rw [hv] at this
            exact this
          | succ i => simpa using h2 i sv (by simpa using hi)
        · simp only [List.mapM_cons, rvSem, Sem.run_bind, Sem.run_pure, Result.andThen_ok, h3]
        · rcases List.mem_cons.1 hsv with rfl | hsv
          · exact hmk
          · exact h4 sv hsv
    · cases hr
  | .cell _ _ :: _, res, hr => by cases hr

theorem results_run {P : Program} {fn : Func} {rs : List ResultVar} (hrs : fn.results = rs.toArray) {tmps : Array Value} {w : World} {vs : List Value}
    (h : (rs.mapM (rvSem tmps)).run P w = .ok vs w) :
    (results fn tmps).run P w = .ok (match vs with | [v] => v | _ => .tuple vs.toArray) w := by
  have he : results fn tmps = (do let vs ← fn.results.mapM (rvSem tmps); pure (if h : vs.size = 1 then vs[0] else .tuple vs)) := rfl
  rw [he, hrs, List.mapM_toArray]
  simp only [Sem.run_bind, Sem.run_map, h, Result.andThen_ok, Sem.run_pure]
  cases vs with
  | nil => rfl
  | cons v r => cases r <;> rfl

theorem retAll_spec {V : Env} (hV : EnvOk V) {nt : Nat} {w0 : World} {κ0 : Nat → Cls} {C0 : Nat → Prop} {hd0 : Nat → Value} {g : G} {s : St} {a : Act} {w : World} (h : Rel nt w0 κ0 C0 hd0 g s a w) {fn : Func} {rs : List ResultVar} (hrs : fn.results = rs.toArray)
    {res : List SV} (hr : retAll V s rs = some res) : ∃ v, (results fn a.tmps).run V.P w = .ok v w ∧ repA g w (resAV res) v := by
  have plain : retSV s rs = some res → ∃ v, (results fn a.tmps).run V.P w = .ok v w ∧ repA g w (resAV res) v := by
    intro hret
    obtain ⟨vs, hv1, hv2, hv3, hv4⟩ := retSV_spec h V.P rs res hret
    refine ⟨_, results_run (P := V.P) hrs hv3, ?_⟩
    have tup : repA g w (.tup res) (.tuple vs.toArray) := ⟨vs.toArray, rfl, by simpa using hv1, fun i sv hi => by
      have := hv2 i sv hi
      rw [Array.getD_eq_getD_getElem?]
      rw [List.getD_eq_getElem?_getD] at this
      simpa using this⟩
    cases res with
    | nil =>
      have : vs = [] := List.eq_nil_of_length_eq_zero hv1
      subst this
      exact tup
    | cons x r =>
      cases r with
      | nil =>
        cases vs with
        | nil => simp at hv1
        | cons v vs' =>
          have : vs' = [] := List.eq_nil_of_length_eq_zero (by simpa using hv1)
          subst this
          exact hv2 0 x rfl
      | cons y r =>
        cases vs with
        | nil => simp at hv1
        | cons v vs' =>
          cases vs' with
          | nil => simp at hv1
          | cons v' vs'' =>
            show repA g w (cond x.isMark (.agg (y :: r)) (.tup (x :: y :: r))) _
            rw [hv4 x (by simp)]
            exact tup
  unfold retAll at hr
  split at hr
  · rename_i t ty
    split at hr
    · rename_i j ht
      split at hr
      · rename_i ty' cs hH
        split at hr
        · rename_i zs hz
          cases hk : (Nat.beq zs.length cs.length && Nat.blt 0 cs.length) with
          | false => rw [hk] at hr; cases hr
          | true =>
            rw [hk] at hr
            cases hr
            rw [Bool.and_eq_true] at hk
            have hzl := Nat.eq_of_beq_eq_true hk.1
            have hpos : 0 < cs.length := by simpa using hk.2
            obtain ⟨b, vs, k1, k2, k3, k4, k5⟩ := h.ok.obs j _ hH
            have hs := h.slots t
            rw [ht] at hs
            obtain ⟨b', e1, e2⟩ := hs
            rw [k1] at e1
            cases e1
            have hload := run_loadAgg hV hz (w := w) (b := b) (o := 0) (vs := vs.toList) (by simp [k4, hzl]) fun j v hj => by
              rw [Nat.zero_add, cell_of_row w b j vs ty' (0, 0) k3]
              simpa using hj
            have hload' : (loadVar ty ⟨b, 0, none⟩).run V.P w = .ok (.agg vs) w := by
              have := hload
              simp only [Instr.loadAt, Instr.sureAddr, Sem.run_bind, Sem.run_pure, Result.andThen_ok] at this
              simpa using this
            refine ⟨.agg vs, ?_, ?_⟩
            · have := results_run (P := V.P) (tmps := a.tmps) (w := w) (vs := [.agg vs]) hrs (by
                simp only [List.mapM_cons, List.mapM_nil, rvSem, Sem.run_bind, Sem.run_pure, e2, asAddr, hload', Result.andThen_ok])
              exact this
            · cases cs with
              | nil => simp at hpos
              | cons c r => exact ⟨vs, rfl, k4, k5⟩
        · cases hr
      · cases hr
    · cases hr
  · exact plain hr

/-- THE LAW of a function's abstract run. -/
theorem evF_good {V : Env} (hV : EnvOk V) {R : Type} {T : Tab R} (hT : ∀ f mode F, T f = some (mode, F) → Good V.P f mode F) (A : Ann) {D : Nat → Array Oper → St → (St → Option R) → Option R}
    (hD : ∀ nt ops s K r, D nt ops s K = some r → ∃ s', K s' = some r ∧ RegOk V.P nt ops s s') {f : Nat} {fn : Func} {c : Code} {rs : List ResultVar} (hf : V.P.funcs[f]? = some fn)
    (hname : (fn.name == "runtime.NumGoroutine") = false) (hb : fn.body = some c) (hrs : fn.results = rs.toArray)
    {L : Code → St → (Exit → St → Option R) → Option R} (hL : ∀ c' ∈ loops c, LoopOk V.P fn.ntmps L c') : Good V.P f false (evF T V A D L fn.ntmps rs c) := by
  intro args objs K r hc
  unfold evF at hc
  cases h1 : (Nat.ble args.length fn.ntmps && Nat.blt objs.length 1000) with
  | false => rw [h1] at hc; cases hc
  | true =>
    rw [h1] at hc
    simp only [cond_true] at hc
    simp only [Bool.and_eq_true] at h1
    have hl1 := Nat.le_of_ble_eq_true h1.1
    have hl2 : objs.length < 1000 := by simpa using h1.2
    obtain ⟨e, s', hK, hcode⟩ := evk_sound hV hT A fn.ntmps (hD fn.ntmps) c hL _ _ r hc
    have hend : ∃ res, retAll V s' rs = some res ∧ finish s' objs.length res K = some r ∧ (e = .normal ∨ e = .ret) := by
      unfold endK at hK
      split at hK
      · split at hK
        · rename_i res hr; exact ⟨res, hr, hK, .inl rfl⟩
        · cases hK
      · split at hK
        · rename_i res hr; exact ⟨res, hr, hK, .inr rfl⟩
        · cases hK
      · cases hK
    obtain ⟨res, hret, hfin, he⟩ := hend
    unfold finish at hfin
    simp only at hfin
    split at hfin
    · cases hfin
    · rename_i objs' hobs
      cases h2 : (prefixB (upto 0 objs.length) (reach s'.H 64 (upto 0 objs.length ++ svIds res) []) && nodupB (reach s'.H 64 (upto 0 objs.length ++ svIds res) [])) with
      | false => rw [h2] at hfin; cases hfin
      | true =>
        rw [h2] at hfin
        simp only [cond_true] at hfin
        simp only [Bool.and_eq_true] at h2
        generalize hids : reach s'.H 64 (upto 0 objs.length ++ svIds res) [] = ids at hobs h2 hfin
        refine ⟨_, objs', hfin, fun g vals w hfresh hobr hlen hargs hobl => .inl ⟨?_, ?_⟩⟩
        · have h3 : fn.name ≠ "runtime.NumGoroutine" := by simpa using hname
          simp [callFunc, hf, h3, hb]
        · have hstart : Rel fn.ntmps w g.κ (fun j => cellsOb (objs[j]?)) g.hd g ⟨numSl 0 args, numH 0 objs⟩ { tmps := vals.toArray ++ Array.replicate (fn.ntmps - vals.toArray.size) undef, defers := [] } w := by
            refine ⟨⟨rfl, rfl, rfl, Nat.le_refl _, fun b hb hn => ⟨rfl, rfl⟩, hfresh, fun j ob hj => ?_, fun j hj => ?_⟩, fun t => ?_, ?_, rfl⟩
            · have hj : look (numH 0 objs) j = some ob := hj
              rw [numH_look] at hj
              exact hobr j ob (by simpa using hj)
            · have hlt : j < objs.length := by
                rcases Nat.lt_or_ge j objs.length with hl | hl
                · exact hl
                · have hj : cellsOb (objs[j]?) := hj
                  rw [List.getElem?_eq_none hl] at hj
                  exact hj.elim
              refine ⟨rfl, by omega, fun e E xs hx => ?_⟩
              have hx : look (numH 0 objs) j = _ := hx
              rw [numH_look] at hx
              have hx' : objs[j]? = some (.arr e E xs) := by simpa using hx
              have hj : cellsOb (objs[j]?) := hj
              rw [hx'] at hj
              exact hj
            · unfold St.get
              have hl := numSl_look args 0 t
              simp only [Nat.zero_le, if_true, Nat.sub_zero] at hl
              simp only [hl]
              cases hx : args[t]? with
              | none => trivial
              | some sv =>
                have := hargs t sv hx
                have hlt : t < vals.length := by rw [← hlen]; exact (List.getElem?_eq_some_iff.1 hx).1
                show rep g w sv _
                have hget : (vals.toArray ++ Array.replicate (fn.ntmps - vals.toArray.size) undef).getD t undef = vals.getD t undef := by
                  rw [Array.getD_eq_getD_getElem?, Array.getElem?_append_left (by simpa using hlt), List.getD_eq_getElem?_getD]
                  simp
                rw [hget]
                exact this
            · simp only [Array.size_append, Array.size_replicate, List.size_toArray]
              omega
          refine calls_of_wp hf hb (wp_mono (hcode hstart) fun e' a' w' ⟨he', g', hr⟩ => ?_)
          subst he'
          obtain ⟨v0, hres, hrep0⟩ := retAll_spec hV hr hrs hret
          obtain ⟨hol, hob⟩ := getObs_spec s'.H ids ids objs' hobs
          have hfinal : ∃ v, (results fn a'.tmps).run V.P w' = .ok v w' ∧ ∃ v', Ending.returned v = .returned v' ∧ ∃ g'', Ok w g.κ (fun j => cellsOb (objs[j]?)) g.hd g'' (fun j => objs'[j]?) w' ∧
              (false = true → ∀ j, j < objs.length → g''.hd j = g.hd j) ∧ resRep g'' w' (res.map (SV.ren fun j => pos ids j 0)) v' := by
            refine ⟨_, hres, _, rfl, g'.inner ids [], ⟨hr.ok.os, hr.ok.tape, hr.ok.output, hr.ok.size, fun b hb hn => ?_, fun b hb => ?_, fun k ob hk => ?_, fun j hj => ?_⟩, by simp, ?_⟩
            · obtain ⟨h3, h4⟩ := hr.ok.old b hb hn
              refine ⟨h3, ?_⟩
              have hgk : ∀ j, g'.κ b ≠ .obj j := by rw [h4]; exact hn
              rw [← h4]
              cases hk : g'.κ b with
              | obj j => exact absurd hk (hgk j)
              | none => simp only [G.inner, hk]
              | shared m => simp only [G.inner, hk]
            · simp only [G.inner, hr.ok.fresh b hb]
            · have hkl : k < ids.length := by rw [← hol]; exact (List.getElem?_eq_some_iff.1 hk).1
              obtain ⟨ob0, hl, ho⟩ := hob k _ (List.getElem?_eq_getElem hkl)
              rw [ho] at hk
              cases hk
              exact ob_inner hr ids [] h2.2 (List.getElem?_eq_getElem hkl) hl
            · obtain ⟨h3, h4, h5⟩ := hr.ok.c0 j hj
              have hlt : j < objs.length := by
                rcases Nat.lt_or_ge j objs.length with hl | hl
                · exact hl
                · have hj : cellsOb (objs[j]?) := hj
                  rw [List.getElem?_eq_none hl] at hj
                  exact hj.elim
              have hidj := prefixB_spec _ _ h2.1 j (0 + j) (upto_get objs.length 0 j hlt)
              rw [Nat.zero_add] at hidj
              refine ⟨?_, h4, fun e E xs hx => ?_⟩
              · simp only [G.inner, nth_get, hidj]
                exact h3
              · obtain ⟨ob0, hl, ho⟩ := hob j j hidj
                have hx : objs'[j]? = _ := hx
                rw [ho] at hx
                cases ob0 with
                | cells _ _ => cases hx
                | arr e' E' xs' => exact h5 _ _ _ hl
            · have hren : ∀ sv v, rep g' w' sv v → rep (g'.inner ids []) w' (sv.ren fun j => pos ids j 0) v := fun sv v hr => rep_ren (fun j k hj => by
                have := (pos_spec ids j 0 k hj).2
                rw [Nat.sub_zero] at this
                simp only [G.inner, nth_get, this]) sv v hr fun b m _ hb => by simp only [G.inner, hb]
              exact repA_res (ren_mark _) res _ (fun sv _ v h => hren sv v h) hrep0
          rcases he with rfl | rfl
          · exact ⟨hr.df, hfinal⟩
          · exact ⟨hr.df, hfinal⟩

end Go.Proofs.Ytmmadcccjicdcaa.E
