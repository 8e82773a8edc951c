/- Regions whose order is drawn: the abstract run in the text's order tells of every order. -/
import Derived.Test.YtmmadcccjicdcaaE7
namespace Go.Proofs.Ytmmadcccjicdcaa.E
set_option linter.unusedVariables false
set_option linter.unusedSimpArgs false

theorem evs_congr {s s' : St} {x : Operand} (h : ev s x = ev s' x) : evs s x = evs s' x := by unfold evs; rw [h]

theorem look_fun {s s' : St} (h : ∀ j, look s.H j = look s'.H j) : look s.H = look s'.H := funext h

theorem opVal_congr (V : Env) {s s' : St} (o : Oper) (he : ∀ x ∈ o.op.operands, ev s x = ev s' x) (hH : ∀ j, look s.H j = look s'.H j) : opVal V s o = opVal V s' o := by
  obtain ⟨dst, op, type, pos, after, guard⟩ := o
  have hv : ∀ x ∈ op.operands, evs s x = evs s' x := fun x hx => evs_congr (he x hx)
  have hl := look_fun hH
  have hb : ∀ d (x : Option Operand), (∀ y, x = some y → evs s y = evs s' y) → bnd s d x = bnd s' d x := by
    intro d x hx
    cases x with
    | none => rfl
    | some y => simp only [bnd, hx y rfl]
  cases op with
  | move x => simp only [opVal, he x (by simp [Op.operands])]
  | assign x => simp only [opVal, he x (by simp [Op.operands])]
  | nilCheck x => simp only [opVal, hv x (by simp [Op.operands])]
  | pick c x y => simp only [opVal, hv c (by simp [Op.operands]), he x (by simp [Op.operands]), he y (by simp [Op.operands])]
  | binOp op t x y yt => simp only [opVal, hv x (by simp [Op.operands]), hv y (by simp [Op.operands])]
  | build t parts =>
    have : (parts.toList.map fun p => (p.1, evs s p.2)) = parts.toList.map fun p => (p.1, evs s' p.2) := List.map_congr_left fun p hp => by rw [hv p.2 (by simp only [Op.operands, List.mem_toArray]; exact List.mem_map_of_mem hp)]
    simp only [opVal, this]
  | unOp op t x => simp only [opVal, hv x (by simp [Op.operands])]
  | convert a b x => simp only [opVal, hv x (by simp [Op.operands]), hl]
  | extract x i => simp only [opVal, he x (by simp [Op.operands])]
  | fieldAddr t x f => simp only [opVal, hv x (by simp [Op.operands])]
  | indexAddr t x i => simp only [opVal, hv x (by simp [Op.operands]), hv i (by simp [Op.operands]), hl]
  | load t x => simp only [opVal, hv x (by simp [Op.operands]), hl]
  | index t x i => simp only [opVal, hv x (by simp [Op.operands]), hv i (by simp [Op.operands])]
  | slice t x lo hi mx =>
    have h1 : ∀ d, bnd s d lo = bnd s' d lo := fun d => hb d lo fun y hy => hv y (by subst hy; simp [Op.operands])
    have h2 : ∀ d, bnd s d hi = bnd s' d hi := fun d => hb d hi fun y hy => hv y (by subst hy; simp [Op.operands])
    simp only [opVal, hv x (by simp [Op.operands]), h1, h2]
  | makeFunc f first caps =>
    have : caps.toList.map (evs s) = caps.toList.map (evs s') := List.map_congr_left fun x hx => hv x (by simp only [Op.operands, Array.mem_append]; exact .inr (by simpa using hx))
    simp only [opVal, this]
  | call c =>
    obtain ⟨callee, args, argTypes⟩ := c
    cases callee with
    | value f => rfl
    | invoke r m => rfl
    | builtin b =>
      have ha : ∀ x ∈ args.toList, evs s x = evs s' x := fun x hx => hv x (by simp only [Op.operands, Call.operands, Array.mem_append]; exact .inr (by simpa using hx))
      simp only [opVal, hl]
      split
      · rename_i x hx
        rw [ha x (by rw [hx]; simp)]
      · rename_i x y hx
        rw [ha x (by rw [hx]; simp), ha y (by rw [hx]; simp)]
      · rename_i x y hx
        rw [ha x (by rw [hx]; simp), ha y (by rw [hx]; simp)]
      · rfl
  | _ => rfl

section
variable {nt : Nat} {w0 : World} {κ0 : Nat → Cls} {C0 : Nat → Prop} {hd0 : Nat → Value} {g : G} {s s' : St} {a : Act} {w : World}

end

theorem disj_nil : ∀ l : List Nat, disj l [] = true
  | [] => rfl
  | a :: r => by simp [disj, memb, disj_nil r]

theorem argSV_congr {H H' : List (Nat × Ob)} (h : look H = look H') (ids : List Nat) : argSV false H ids = argSV false H' ids := by
  funext sv
  cases sv <;> simp [argSV, h]

def StepD (P : Program) (nt : Nat) (s : St) (o : Oper) (av : AV) : Prop :=
  ∀ s1, (∀ x ∈ o.op.operands, ev s1 x = ev s x) → (∀ j, look s1.H j = look s.H j) → ∀ {w0 κ0 C0 hd0 g a w}, Rel nt w0 κ0 C0 hd0 g s1 a w → (∀ d, o.dst = some d → d < nt) →
    ∀ {next : Act → World → Prop} {Q : Exit → Act → World → Prop}, (∀ g' a' w', Rel nt w0 κ0 C0 hd0 g' (putO s1 o.dst av) a' w' → next a' w') → o.wp P a w next Q

theorem Rel.putO {nt : Nat} {w0 : World} {κ0 : Nat → Cls} {C0 : Nat → Prop} {hd0 : Nat → Value} {g : G} {s : St} {a : Act} {w : World} (h : Rel nt w0 κ0 C0 hd0 g s a w) (dst : Option Tmp) (hd : ∀ d, dst = some d → d < nt) {av : AV} {v : Value} (hv : repA g w av v) :
    Rel nt w0 κ0 C0 hd0 g (E.putO s dst av) (a.put dst v) w := by
  unfold E.putO
  cases dst with
  | none => exact h
  | some d => exact h.put d (hd d rfl) _ _ hv

section
variable {V : Env} (hV : EnvOk V) {R : Type} {T : Tab R} (hT : ∀ f mode F, T f = some (mode, F) → Good V.P f mode F) (nt : Nat)

theorem isNilL_spec {l : List Nat} (h : isNilL l = true) : l = [] := by cases l with | nil => rfl | cons _ _ => cases h

theorem inl_mark (objs : List Ob) (v : SV) : (inlSV objs v).isMark = v.isMark := by
  cases v with
  | slo k => simp only [inlSV]; split <;> rfl
  | ea ow e E xs i => cases ow <;> rfl
  | clo c caps => cases caps <;> rfl
  | _ => rfl

theorem inl_rep {g g' : G} {w : World} {objs : List Ob} (ho : ∀ k ob, objs[k]? = some ob → obRep g w k ob) (hob : ∀ k b e E xs, objs[k]? = some (.arr e E xs) → (g.hd k).ownBlock = some b → g'.κ b = .shared false) (hhd : ∀ c v, rep g w (.clo c []) v → rep g' w (.clo c []) v)
    (sv : SV) (v : Value) (hr : rep g w sv v) (hs : ∀ b m, (m = true → shSV sv = true) → g.κ b = .shared m → g'.κ b = .shared m) : rep g' w (inlSV objs sv) v := by
  cases sv with
  | undef => trivial
  | mark => trivial
  | sh l x => exact shRep_keep (fun b m hm hk => ⟨hs b m hm hk, rfl⟩) hr
  | nil => exact hr
  | int k n => exact hr
  | bool b => exact hr
  | str l => exact hr
  | sl l e E xs =>
    obtain ⟨A, c, h1, h2, h3⟩ := hr
    exact ⟨A, c, h1, h2, fun hne => by obtain ⟨b, o, h4, ⟨m, hm, h5⟩, h6⟩ := h3 hne; exact ⟨b, o, h4, ⟨m, hm, hs b m hm h5⟩, h6⟩⟩
  | slo k =>
    simp only [inlSV]
    split
    · rename_i e E xs hk
      obtain ⟨h1, h2⟩ := ho k _ hk
      have hv : v = g.hd k := hr.1
      subst hv
      exact own_shared h1 (m := false) (by simp) fun b hb => hob k b e E xs hk hb
    · trivial
  | ea ow e E xs i =>
    cases ow with
    | none =>
      obtain ⟨h0, h1, b, o, h2, ⟨m, h3⟩, h4⟩ := hr
      exact ⟨h0, h1, b, o, h2, ⟨m, hs b m (fun _ => rfl) h3⟩, h4⟩
    | some j => trivial
  | ref j o => trivial
  | clo c caps =>
    cases caps with
    | nil => exact hhd c v hr
    | cons _ _ => trivial

include hV hT in
theorem dstep_sound (s : St) (o : Oper) (K : AV → Option R) (r : R) (hc : dstep T V s o K = some r) : ∃ av, K av = some r ∧ StepD V.P nt s o av := by
  unfold dstep at hc
  split at hc
  · rename_i f args argTypes hop
    split at hc
    · rename_i fid hf
      split at hc
      · rename_i F hT'
        cases hnil : isNilL (argIds false (args.toList.map (evs s))) with
        | false => rw [hnil] at hc; cases hc
        | true =>
          rw [hnil] at hc
          simp only [cond_true] at hc
          obtain ⟨res, objs, hK, hfacts⟩ := hT fid false F hT' _ _ _ _ hc
          cases hsh : (!anySh res || isNilL (bvIds false (args.toList.map (evs s)))) with
          | false => rw [hsh] at hK; cases hK
          | true =>
            rw [hsh] at hK
            simp only [cond_true] at hK
            refine ⟨_, hK, fun s1 he hH {w0 κ0 C0 hd0 g a w} h hd {next Q} hn => ?_⟩
            have hev : ∀ x ∈ o.op.operands, evs s1 x = evs s x := fun x hx => evs_congr (he x hx)
            have hargs : args.toList.map (evs s1) = args.toList.map (evs s) := List.map_congr_left fun x hx => hev x (by rw [hop]; simp only [Op.operands, Call.operands, Array.mem_append]; exact .inr (by simpa using hx))
            have hfv : a.eval f = .func (.func fid) #[] #[] := by
              have := evs_of h ((hev f (by rw [hop]; simp [Op.operands, Call.operands])).trans hf)
              exact this
            have hcall := hfacts (g.inner [] (bvIds false (args.toList.map (evs s)))) (args.map a.eval).toList w (fun b hb => by simp only [G.inner, h.ok.fresh b hb]) (fun j ob hj => by simp at hj) (by simp) (fun i sv hi => by
              rw [List.getElem?_map] at hi
              cases hx : (args.toList.map (evs s))[i]? with
              | none => rw [hx] at hi; cases hi
              | some u =>
                rw [hx] at hi
                cases hi
                have hx1 := hx
                rw [← hargs, List.getElem?_map] at hx1
                cases hy : args.toList[i]? with
                | none => rw [hy] at hx1; cases hx1
                | some y =>
                  rw [hy] at hx1
                  cases hx1
                  have hr := evs_rep h y
                  have hv : (args.map a.eval).toList.getD i undef = a.eval y := by
                    rw [List.getD_eq_getElem?_getD, Array.toList_map, List.getElem?_map, hy]
                    rfl
                  rw [hv, ← argSV_congr (look_fun hH) []]
                  refine arg_inner h false [] _ (disj_nil _) _ _ hr fun j hj hm => bv_mem false _ j (by rw [← hj]; exact List.mem_of_getElem? hx) rfl) (by simp)
            refine calls_wp (fid := fid) (vals := args.map a.eval) (by simp [execOp, hop, resolve, hfv, Deferred.ofValue, invoke]) ?_
            rw [Array.toArray_toList] at hcall
            refine hcall.mono fun v w' ⟨g', hok, _, hres⟩ => ?_
            have hinner_old : ∀ b, b < w.heap.size → w'.heap[b]? = w.heap[b]? ∧ g'.κ b = (g.inner [] (bvIds false (args.toList.map (evs s)))).κ b := fun b hb => hok.old b hb fun j => by
              simp only [G.inner]
              cases g.κ b with
              | none => simp
              | shared => simp
              | obj m => simp only [pos]; split <;> simp
            obtain ⟨hFr, hrel⟩ := h.more (g' := ⟨fun b => if b < w.heap.size then g.κ b else (match g'.κ b with | .obj _ => .shared false | c => c), g.hd⟩) hok.os hok.tape hok.output hok.size (fun b hb _ => (hinner_old b hb).1) (fun b hb _ => (hinner_old b (Nat.lt_of_lt_of_le hb h.ok.size)).1)
              (fun b hb => by simp [hb]) (fun b hb => by
                have := hok.size
                have h1 := hok.fresh b hb
                simp only [show ¬ b < w.heap.size by omega, if_false, h1]) rfl
            refine hn _ _ _ (hrel.putO o.dst hd ?_)
            refine repA_res (inl_mark objs) res v (fun sv hm v hr => inl_rep (g := g') (g' := ⟨fun b => if b < w.heap.size then g.κ b else (match g'.κ b with | .obj _ => .shared false | c => c), g.hd⟩) hok.obs (fun k b e E xs hk hb => ?_) (fun c v hr => hr) sv v hr fun b m hs hb => ?_) hres
            · have hkb := (hok.obs k _ hk).2 b hb
              have hnl : ¬ b < w.heap.size := fun hl => by
                have h2 := (hinner_old b hl).2
                rw [hkb] at h2
                simp only [G.inner] at h2
                cases hg : g.κ b with
                | none => rw [hg] at h2; cases h2
                | shared => rw [hg] at h2; cases h2
                | obj m => rw [hg] at h2; simp only [pos] at h2; split at h2 <;> cases h2
              simp only [hnl, if_false, hkb]
            · by_cases hl : b < w.heap.size
              · simp only [hl, if_true]
                have h2 := (hinner_old b hl).2
                rw [hb] at h2
                simp only [G.inner] at h2
                cases hg : g.κ b with
                | none => rw [hg] at h2; cases h2
                | shared m' => rw [hg] at h2; exact h2.symm
                | obj k' =>
                  exfalso
                  rw [hg] at h2
                  simp only [pos] at h2
                  split at h2
                  · rename_i hmb
                    cases h2
                    have hbv : bvIds false (args.toList.map (evs s)) = [] := by
                      cases han : anySh res with
                      | false => have := anySh_spec res han sv hm; rw [this] at hs; cases hs rfl
                      | true => rw [han] at hsh; simp only [Bool.not_true, Bool.false_or] at hsh; exact isNilL_spec hsh
                    rw [hbv] at hmb
                    cases hmb
                  · cases h2
              · simp only [hl, if_false, hb]
      · cases hc
    · cases hc
  · rename_i t len parts hop
    split at hc
    · rename_i e E ht
      split at hc
      · rename_i xs hxs
        cases h1 : (Nat.beq len xs.length && Nat.ble len 1000000) with
        | false => rw [h1] at hc; cases hc
        | true =>
          rw [h1] at hc
          simp only [cond_true] at hc
          simp only [Bool.and_eq_true] at h1
          have hl : len = xs.length := Nat.eq_of_beq_eq_true h1.1
          have hl2 : len ≤ 1000000 := Nat.le_of_ble_eq_true h1.2
          refine ⟨_, hc, fun s1 he hH {w0 κ0 C0 hd0 g a w} h hd {next Q} hn => ?_⟩
          have hxs1 : E.gets 0 (parts.toList.map fun p => (p.1, evs s1 p.2)) = some xs := by
            rw [← hxs]
            congr 1
            refine List.map_congr_left fun p hp => ?_
            have hev : evs s1 p.2 = evs s p.2 := evs_congr (he p.2 (by
              rw [hop]
              simp only [Op.operands, List.mem_toArray, List.mem_map]
              exact ⟨p, hp, rfl⟩))
            rw [hev]
          obtain ⟨hr, hown⟩ := run_buildSlice' hV h ht hxs1 hl hl2
          refine wp_value (v := .slice (some ⟨w.heap.size, 0, none⟩) len len) (w' := w.alloc (.cells (xs.map E.enc).toArray e)) (by simp only [execOp, hop]; simp [hr]) ?_
          have hs : (w.alloc (.cells (xs.map E.enc).toArray e)).heap.size = w.heap.size + 1 := by show (w.heap.push _).size = _; simp
          obtain ⟨hFr, hrel⟩ := h.more (g' := ⟨fun b => if b = w.heap.size then .shared false else g.κ b, g.hd⟩) (w' := w.alloc (.cells (xs.map E.enc).toArray e)) rfl rfl rfl (by omega) (fun b hb _ => heap_alloc_old w _ b hb)
            (fun b hb _ => heap_alloc_old w _ b (Nat.lt_of_lt_of_le hb h.ok.size)) (fun b hb => by simp only [show ¬ b = w.heap.size by omega, if_false]) (fun b hb => by simp only [show ¬ b = w.heap.size by omega, if_false]; exact h.ok.fresh b (by omega)) rfl
          refine hn _ _ _ (hrel.putO o.dst hd ?_)
          refine own_shared hown (m := false) (by simp) fun b hb => ?_
          simp only [Value.ownBlock, Option.some.injEq] at hb
          simp [← hb]
      · cases hc
    · cases hc
  · split at hc
    · rename_i c v hv
      cases c with
      | false => cases hc
      | true =>
        refine ⟨v, hc, fun s1 he hH {w0 κ0 C0 hd0 g a w} h hd {next Q} hn => ?_⟩
        have hv1 : opVal V s1 o = some (true, v) := by rw [opVal_congr V o he hH]; exact hv
        obtain ⟨u, hr, hrep⟩ := opVal_sound hV h o v hv1
        exact wp_value hr (hn g _ _ (h.putO o.dst hd hrep))
    · cases hc

end

end Go.Proofs.Ytmmadcccjicdcaa.E
