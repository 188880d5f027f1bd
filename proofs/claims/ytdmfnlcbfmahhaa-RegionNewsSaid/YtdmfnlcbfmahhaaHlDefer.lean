/- Functions that defer one closure, which recovers. -/
import Derived.Test.YtdmfnlcbfmahhaaHlSep
import Derived.Recover
namespace Go.Proofs.Ytdmfnlcbfmahhaa
namespace Hl
open Go

variable {e : Still} {l r : List HP} {P : Program}

/-- What is asked where a body ends and the deferred call is still to be made. -/
def doorF (P : Program) (fn : Func) (G : FuncId) (cap : List Value) (R : Ending → World → Prop) (n : Nat) (u : FrameMode) (env : Env) (w : World) : Prop :=
  CallsD P G cap.toArray u w fun
    | .returned _, u', w' => (match Go.settle u' with
      | .returning => resL (wpM P) P env fn.results.toList (fun vs w'' => R (.returned (oneOf vs)) w'') w'
      | .panicking c => R (.panicked c) w'
      | .run => False)
    | .panicked c, u', w' => (match raised u' c with
      | .panicking c => R (.panicked c) w'
      | _ => False)
    | .outgrown, _, _ => False

theorem door_leaves {fn : Func} {G : FuncId} {cap : List Value} {R : Ending → World → Prop} {n : Nat} {u : FrameMode} {env : Env} {w : World} {a : Act} {D : List Deferred}
    (hu : u ≠ .run) (hc : callable P G = true) (hs : Sim n D env a) (h : doorF P fn G cap R n u env w) :
    Leaves P fn a.tmps R [{ target := .fn (.func G) cap.toArray, args := #[] }] u w := by
  refine leaves_cons (f := G) (args := #[] ++ cap.toArray) hu (by simp only [invoke]; exact callFunc_callable hc) ?_
  rw [Array.empty_append]
  refine CallsD.mono h ?_
  intro en u' w' hr
  cases en with
  | returned v =>
    simp only at hr
    show Leaves P fn a.tmps R [] (Go.settle u') w'
    cases hst : Go.settle u' with
    | returning =>
      rw [hst] at hr
      obtain ⟨vs, hrun, hk⟩ := resL_el hs hr
      refine ⟨_, ?_, hk⟩
      have e : results fn a.tmps = (do let vs ← fn.results.mapM (readRes a.tmps); pure (if h : vs.size = 1 then vs[0] else .tuple vs)) := by
        unfold results
        congr 1
      rw [e, Sem.run_bind, Array.mapM_eq_mapM_toList, Sem.run_map, hrun]
      simp only [Result.andThen_ok, Sem.run_pure]
      congr 1
      cases vs with
      | nil => rfl
      | cons v vs => cases vs with
        | nil => rfl
        | cons u us => simp [oneOf]
    | panicking c => rw [hst] at hr; exact hr
    | run => rw [hst] at hr; exact hr.elim
  | panicked c =>
    simp only at hr
    show Leaves P fn a.tmps R [] (raised u' c) w'
    cases hst : raised u' c with
    | panicking c' => rw [hst] at hr; exact hr
    | returning => rw [hst] at hr; exact hr.elim
    | run => rw [hst] at hr; exact hr.elim
  | outgrown => exact hr.elim

/-- A body 'c0; defer func() { .. }(); rest': what comes ahead of the defer, the closure's number and slot, what it holds, the rest. -/
structure Defers (fn : Func) (c0 : Code) (i1 : Nat) (d : Nat) (G : FuncId) (t : Nat) (rest : Code) : Prop where
  body : ∃ ty p a ty' p' a', fn.body = some (.seq c0 (.seq (.region i1 #[⟨some d, .makeFunc (.func G) #[] #[.tmp t], ty, p, a, none⟩, ⟨none, .defer ⟨.value (.tmp d), #[], #[]⟩, ty', p', a', none⟩] false) rest))

def deferF {T : Type} (M : Prims T) (P : Program) (fn : Func) (args : List Value) (c0 rest : Code) (d : Nat) (G : FuncId) (t : Nat)
    (ret : Value → Env → T) (pan : Value → List PanicEntry → Env → T) : T :=
  codeF M P (max fn.ntmps args.length) (fun _ _ => M.fail) c0 (fun e env => match e with
    | .normal => wV M (env t) fun v => codeF M P (max fn.ntmps args.length) (pan v) rest (fun e env => match e with | .normal | .ret => ret v env | _ => M.fail) (env.upd d (some (.func (.func G) #[] #[v])))
    | _ => M.fail) (argEnv args 0)

theorem deferF_sound {f : FuncId} {fn : Func} {args : List Value} {w : World} {R : Ending → World → Prop} {c0 rest : Code} {i1 d t : Nat} {G : FuncId} (hf : P.funcs[f]? = some fn) (hb : Defers fn c0 i1 d G t rest)
    (hc : callable P G = true) (hd : Nat.blt d (max fn.ntmps args.length) = true)
    {rt : Value → Env → World → Prop} {pn : Value → List PanicEntry → Env → World → Prop} (hrt : ∀ v env w, rt v env w → doorF P fn G [v] R (max fn.ntmps args.length) .returning env w)
    (hpn : ∀ v c env w, pn v c env w → doorF P fn G [v] R (max fn.ntmps args.length) (.panicking c) env w) (h : deferF (wpM P) P fn args c0 rest d G t rt pn w) : Calls P f args.toArray w R := by
  obtain ⟨ty, p, aft, ty', p', aft', hb⟩ := hb.body
  refine calls_of_wp_defers hf hb (wp_seq (wp_mono (codeF_sound c0 _ _ _ w h (argSim fn args)) fun e a w' hl => ?_))
  cases e with
  | normal =>
    obtain ⟨env, hs, _, hq⟩ := hl
    obtain ⟨v, hv, hq⟩ := wV_el hq
    have hev : a.eval (.tmp t) = v := hs.eval (x := .tmp t) hv
    have hlt : d < a.tmps.size := by rw [hs.size]; simp [Nat.blt] at hd; omega
    refine wp_seq (wp_region_list ?_)
    refine wpList_plain rfl fun K1 hK1 => ?_
    have hx1 : execOp a.eval ⟨some d, .makeFunc (.func G) #[] #[.tmp t], ty, p, aft, none⟩ = pure (.value (.func (.func G) #[] #[v])) := by
      simp [execOp, Instr.makeFunc, hev]
    unfold Oper.wp
    rw [hx1]
    show K1 (a.put (some d) (.func (.func G) #[] #[v])) w'
    refine hK1 _ _ (wpList_plain rfl fun K2 hK2 => ?_)
    have hg : (a.put (some d) (.func (.func G) #[] #[v])).eval (.tmp d) = .func (.func G) #[] #[v] := by
      have := put_tmps_same (v := .func (.func G) #[] #[v]) hlt
      simp [Act.eval, Array.getD_eq_getD_getElem?, this]
    have hx2 : execOp (a.put (some d) (.func (.func G) #[] #[v])).eval ⟨none, .defer ⟨.value (.tmp d), #[], #[]⟩, ty', p', aft', none⟩ = pure (.defer { target := .fn (.func G) #[v], args := #[] }) := by
      simp [execOp, resolve, Deferred.ofValue, hg]
    unfold Oper.wp
    rw [hx2]
    show K2 _ w'
    refine hK2 _ _ (wpList_nil ?_)
    have hs2 : Sim (max fn.ntmps args.length) [{ target := .fn (.func G) #[v], args := #[] }] (env.upd d (some (.func (.func G) #[] #[v])))
        (({ a.put (some d) (.func (.func G) #[] #[v]) with defers := { target := .fn (.func G) #[v], args := #[] } :: (a.put (some d) (.func (.func G) #[] #[v])).defers } : Act).put none undef) := by
      have hp := hs.put (dst := some d) (by simpa [okDst] using hd) (.func (.func G) #[] #[v])
      exact ⟨hp.size, by show _ :: (a.put _ _).defers = _; rw [hp.defers], hp.slot⟩
    refine wp_mono (codeF_sound rest _ _ _ w' hq hs2) fun e a2 w2 hl2 => ?_
    cases e with
    | normal => obtain ⟨env2, hs3, _, hr⟩ := hl2; show Leaves P fn a2.tmps R a2.defers .returning w2; rw [hs3.defers]; exact door_leaves (by simp) hc hs3 (hrt _ _ _ hr)
    | ret => obtain ⟨env2, hs3, _, hr⟩ := hl2; show Leaves P fn a2.tmps R a2.defers .returning w2; rw [hs3.defers]; exact door_leaves (by simp) hc hs3 (hrt _ _ _ hr)
    | panic c => obtain ⟨env2, hs3, hr⟩ := hl2; show Leaves P fn a2.tmps R a2.defers (.panicking c) w2; rw [hs3.defers]; exact door_leaves (by simp) hc hs3 (hpn _ _ _ _ hr)
    | outgrown => exact hl2.elim
    | exit i => obtain ⟨env2, hs3, _, hr⟩ := hl2; exact hr.elim
    | goto i => obtain ⟨env2, hs3, _, hr⟩ := hl2; exact hr.elim
  | panic c => obtain ⟨env, _, hq⟩ := hl; exact hq.elim
  | outgrown => exact hl.elim
  | ret => obtain ⟨env, _, _, hq⟩ := hl; exact hq.elim
  | exit i => obtain ⟨env, _, _, hq⟩ := hl; exact hq.elim
  | goto i => obtain ⟨env, _, _, hq⟩ := hl; exact hq.elim

/-- The closure: 'func() { caught(recover(), &e) }'. -/
structure Catches (fn : Func) (C : FuncId) : Prop where
  body : ∃ i t p a p' a' ty', fn.body = some (.region i #[⟨some 1, .call ⟨.builtin .recover, #[], #[]⟩, t, p, a, none⟩, ⟨some 2, .call ⟨.value (.func C), #[.tmp 1, .tmp 0], ty'⟩, 0, p', a', none⟩] false)
  ntmps : fn.ntmps = 3
  results : fn.results = #[]

theorem wpOpsS_rec {ops : Array Oper} {Q : Exit → Act → List Frame → World → Prop} {i : Nat} {rest : List Nat} {o : Oper} {a : Act} {cs : List Frame} {w w' : World} (ho : ops[i]? = some o) (hg : o.guard = none)
    (hr : (execOp a.eval o).run P w = .ok .recover w') (h : match recoverD cs with | some (v, cs') => wpOpsS P ops Q rest (a.put o.dst v) cs' w' | none => wpOpsS P ops Q rest (a.put o.dst .nilIface) cs w') : wpOpsS P ops Q (i :: rest) a cs w := by
  simp only [wpOpsS, ho, Region.wanted, hg, if_true, hr]; exact h

theorem wpOpsS_enter {ops : Array Oper} {Q : Exit → Act → List Frame → World → Prop} {i : Nat} {rest : List Nat} {o : Oper} {a : Act} {cs : List Frame} {w w' : World} {f : FuncId} {args : Array Value} (ho : ops[i]? = some o) (hg : o.guard = none)
    (hr : (execOp a.eval o).run P w = .ok (.enter f args) w') (h : Calls P f args w' fun | .returned v, w'' => wpOpsS P ops Q rest (a.put o.dst v) cs w'' | _, _ => False) : wpOpsS P ops Q (i :: rest) a cs w := by
  simp only [wpOpsS, ho, Region.wanted, hg, if_true, hr]
  refine Calls.mono h ?_
  intro en w'' h'
  cases en with
  | returned v => exact h'
  | panicked c => exact h'.elim
  | outgrown => exact h'.elim

theorem catch_door {G C : FuncId} {fn : Func} {v : Value} {u u' : FrameMode} {x : Value} {w : World} {Rc : World → Prop} (hf : P.funcs[G]? = some fn) (hb : Catches fn C) (hc : callable P C = true)
    (hu : ∀ (c₀ : Frame) (cs : List Frame), c₀.mode = u → (recoverD (c₀ :: cs) = none ∧ x = .nilIface ∧ u' = u) ∨ recoverD (c₀ :: cs) = some (x, { c₀ with mode := u' } :: cs))
    (h : Calls P C #[x, v] w fun | .returned _, w' => Rc w' | _, _ => False) : CallsD P G #[v] u w fun en u'' w' => (∃ t, en = .returned t) ∧ u'' = u' ∧ Rc w' := by
  obtain ⟨i, t, p, a, p', a', ty', hbody⟩ := hb.body
  refine callsD_of_wpS hf hbody fun c₀ cs hu₀ => ?_
  apply wpS_region
  rw [hb.ntmps]
  have last : ∀ (cs' : List Frame), cs' = { c₀ with mode := u' } :: cs →
      wpOpsS P #[⟨some 1, .call ⟨.builtin .recover, #[], #[]⟩, t, p, a, none⟩, ⟨some 2, .call ⟨.value (.func C), #[.tmp 1, .tmp 0], ty'⟩, 0, p', a', none⟩]
        (bodyPostS P fn c₀ cs fun en u'' w' => (∃ t, en = .returned t) ∧ u'' = u' ∧ Rc w') [1] { tmps := #[v, x, undef], defers := [] } cs' w := by
    intro cs' hcs
    have hrun : (execOp ({ tmps := #[v, x, undef], defers := [] } : Act).eval ⟨some 2, .call ⟨.value (.func C), #[.tmp 1, .tmp 0], ty'⟩, 0, p', a', none⟩).run P w = .ok (.enter C #[x, v]) w := by
      have e : execOp ({ tmps := #[v, x, undef], defers := [] } : Act).eval ⟨some 2, .call ⟨.value (.func C), #[.tmp 1, .tmp 0], ty'⟩, 0, p', a', none⟩ = callFunc C #[x, v] := by
        simp [execOp, resolve, Deferred.ofValue, invoke, Act.eval]
      rw [e]
      exact callFunc_callable hc
    refine wpOpsS_enter rfl rfl hrun (Calls.mono h ?_)
    intro en w' hr
    cases en with
    | returned v' => exact ⟨rfl, u', hcs, .tuple #[], results_none hb.results _ _ _, ⟨_, rfl⟩, rfl, hr⟩
    | panicked c => exact hr.elim
    | outgrown => exact hr.elim
  show wpOpsS P _ _ [0, 1] { tmps := #[v, undef, undef], defers := [] } (c₀ :: cs) w
  have hrun : (execOp ({ tmps := #[v, undef, undef], defers := [] } : Act).eval ⟨some 1, .call ⟨.builtin .recover, #[], #[]⟩, t, p, a, none⟩).run P w = .ok .recover w := rfl
  refine wpOpsS_rec rfl rfl hrun ?_
  rcases hu c₀ cs hu₀ with ⟨h1, h2, h3⟩ | h1
  · rw [h1]
    have := last (c₀ :: cs) (by rw [h3, ← hu₀])
    rw [h2] at this
    exact this
  · rw [h1]
    exact last _ rfl

/-! ## The same as a term over the primitive operations -/

def deferParts : Option Code → Option (Code × Code × Nat × FuncId × Nat)
  | some (.seq c0 (.seq (.region _ ops _) rest)) => match ops.toList with
    | ⟨some d, .makeFunc (.func G) _ caps, _, _, _, _⟩ :: _ => match caps.toList with
      | [.tmp t] => some (c0, rest, d, G, t)
      | _ => none
    | _ => none
  | _ => none

/-- The value of a panic that is alone. -/
def thrown : List PanicEntry → Option Value
  | [⟨x, false, false⟩] => some x
  | _ => none

def ifV {T : Type} (f : T) (p : Option Value) (K : Value → T) : T := match p with | some a => K a | none => f

def funcD {T : Type} (M : Prims T) (P : Program) (C : FuncId) (fn : Func) (args : List Value) (ret : Value → T) : T :=
  match deferParts fn.body with
  | none => M.fail
  | some (c0, rest, d, G, t) =>
    deferF M P fn args c0 rest d G t (fun v env => M.call C [.nilIface, v] [] (fun _ => resF M P fn ret env) (fun _ => M.fail))
      (fun v c env => ifV M.fail (thrown c) fun x => M.call C [x, v] [] (fun _ => resF M P fn ret env) (fun _ => M.fail))

theorem thrown_eq {c : List PanicEntry} {x : Value} (h : thrown c = some x) : c = [⟨x, false, false⟩] := by
  unfold thrown at h
  split at h
  · cases h; rfl
  · cases h

theorem ent_callD {f C G : FuncId} {fn gn : Func} {args : List Value} {ss : List Shp} {K : Tup ss → World → Prop} {KP : List PanicEntry → World → Prop} {c0 rest : Code} {i1 d t : Nat} (hf : P.funcs[f]? = some fn) (hb : Defers fn c0 i1 d G t rest)
    (hg : P.funcs[G]? = some gn) (hgb : Catches gn C) (hC : callable P C = true) (hG : callable P G = true) (hd : Nat.blt d (max fn.ntmps args.length) = true)
    (h : ent e l (funcD (wpM P) P C fn args (fun v => getRes ss v K))) : ent e l ((wpM P).call f args ss K KP) := by
  intro w hw
  have h := h w hw
  have hp : deferParts fn.body = some (c0, rest, d, G, t) := by
    obtain ⟨ty, p, a, ty', p', a', hbo⟩ := hb.body
    rw [hbo]; rfl
  unfold funcD at h
  rw [hp] at h
  refine Calls.mono (R := fun en w' => match en with | .returned v => getRes ss v K w' | .panicked _ => False | .outgrown => False) ?_ ?_
  · refine deferF_sound hf hb hG hd ?_ ?_ h
    · intro v env w' hq
      have hq' : Calls P C #[.nilIface, v] w' fun | .returned _, w' => resF (wpM P) P fn (fun v => getRes ss v K) env w' | _, _ => False := by
        refine Calls.mono hq fun en w'' hr => ?_
        cases en with
        | returned v => obtain ⟨_, _, hk⟩ := hr; exact hk
        | panicked c => exact hr
        | outgrown => exact hr
      refine CallsD.mono (catch_door (u := .returning) (u' := .returning) (x := .nilIface) hg hgb hC (fun c₀ cs hm => .inl ⟨by simp [recoverD, hm], rfl, rfl⟩) hq') ?_
      rintro en u' w'' ⟨⟨t, rfl⟩, rfl, hr⟩
      exact hr
    · intro v c env w' hq
      cases ht : thrown c with
      | none => rw [ht] at hq; exact hq.elim
      | some x =>
        rw [ht] at hq
        have hc := thrown_eq ht
        subst hc
        have hq' : Calls P C #[x, v] w' fun | .returned _, w' => resF (wpM P) P fn (fun v => getRes ss v K) env w' | _, _ => False := by
          refine Calls.mono hq fun en w'' hr => ?_
          cases en with
          | returned v => obtain ⟨_, _, hk⟩ := hr; exact hk
          | panicked c => exact hr
          | outgrown => exact hr
        refine CallsD.mono (catch_door (u := .panicking [⟨x, false, false⟩]) (u' := .panicking [⟨x, true, false⟩]) (x := x) hg hgb hC (fun c₀ cs hm => .inr (by simp [recoverD, hm])) hq') ?_
        rintro en u' w'' ⟨⟨t, rfl⟩, rfl, hr⟩
        exact hr
  · intro en w' hr
    cases en with
    | returned v => exact getRes_el hr
    | panicked c => exact hr.elim
    | outgrown => exact hr.elim

end Hl
end Go.Proofs.Ytdmfnlcbfmahhaa
