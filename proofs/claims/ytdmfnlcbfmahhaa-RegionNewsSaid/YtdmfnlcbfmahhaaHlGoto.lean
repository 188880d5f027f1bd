/- Functions with one label to which the run jumps back. -/
import Derived.Test.YtdmfnlcbfmahhaaHlSep
import Derived.ScopeJumps
namespace Go.Proofs.Ytdmfnlcbfmahhaa
namespace Hl
open Go

def noLab : Code → Bool
  | .seq a b => noLab a && noLab b
  | .label _ => false
  | _ => true

theorem noLab_none {c : Code} (h : noLab c = true) (l : Nat) : findLabel c l = none := by
  induction c with
  | seq a b iha ihb =>
    simp only [noLab, Bool.and_eq_true] at h
    simp only [findLabel, iha h.1, ihb h.2]
  | label l' => cases h
  | _ => rfl

/-- What stands ahead of the label, the label, what stands behind it. -/
def spine : Code → Option (List Code × Nat × Code)
  | .seq (.label l) b => some ([], l, b)
  | .seq a b => bif noLab a then (match spine b with
    | some (xs, l, y) => some (a :: xs, l, y)
    | none => none) else none
  | _ => none

def gotoParts : Option Code → Option (Code × List Code × Nat × Code)
  | some (.seq pre (.scope c)) => (spine c).map fun q => (pre, q.1, q.2.1, q.2.2)
  | _ => none

theorem gotoParts_eq {b : Option Code} {pre y : Code} {xs : List Code} {l : Nat} (h : gotoParts b = some (pre, xs, l, y)) : ∃ c, b = some (.seq pre (.scope c)) ∧ spine c = some (xs, l, y) := by
  unfold gotoParts at h
  split at h
  · rename_i pre' c
    cases hs : spine c with
    | none => rw [hs] at h; cases h
    | some q =>
      rw [hs] at h
      simp only [Option.map_some, Option.some.injEq, Prod.mk.injEq] at h
      obtain ⟨rfl, rfl, rfl, rfl⟩ := h
      exact ⟨c, rfl, hs⟩
  · cases h

section
variable {T : Type} (M : Prims T) (P : Program) (n : Nat)

def codeL (QP : List PanicEntry → Env → T) : List Code → (Exit → Env → T) → Env → T
  | [], Q, env => Q .normal env
  | c :: cs, Q, env => codeF M P n QP c (fun e env' => match e with | .normal => codeL QP cs Q env' | e => Q e env') env

def backF (QP : List PanicEntry → Env → T) (l : Nat) (y : Code) (Q : Exit → Env → T) (e : Exit) (env : Env) : T :=
  match e with
  | .normal => forceD (dsts y) fun ds => forceS (slotsOf env ds []) fun sl => getSlots M env sl fun r₀ => M.loop (shapes sl) r₀ fun k r =>
      codeF M P n QP y (fun e env' => match e with | .goto l' => bif Nat.beq l' l then getSlots M env' sl k else M.fail | e => Q e env') (setSlots (forget env ds) sl r)
  | .goto _ => M.fail
  | e => Q e env

/-- A call's meaning, as a term over the primitive operations. -/
def funcG (fn : Func) (args : List Value) (ret : Value → T) (pan : List PanicEntry → T) : T :=
  match gotoParts fn.body with
  | some (pre, xs, l, y) => codeF M P (max fn.ntmps args.length) (fun c _ => pan c) pre (fun e env => match e with
        | .normal => codeL M P (max fn.ntmps args.length) (fun c _ => pan c) xs (backF M P (max fn.ntmps args.length) (fun c _ => pan c) l y (endF M P fn ret)) env
        | .goto _ => M.fail
        | e => endF M P fn ret e env) (argEnv args 0)
  | none => M.fail
end

section
variable {P : Program} {n : Nat} {D : List Deferred}

/-- What is asked of the ends, over frames. -/
def LiftX (n : Nat) (D : List Deferred) (QP : List PanicEntry → Env → World → Prop) (Q : Exit → Env → World → Prop) : Exit → Act → World → Prop
  | .panic c, a, w => ∃ env, Sim n D env a ∧ QP c env w
  | .outgrown, _, _ => False
  | e, a, w => ∃ env, Sim n D env a ∧ Q e env w

theorem scope_sound {QP : List PanicEntry → Env → World → Prop} {Q : Exit → Env → World → Prop} {c y : Code} {xs : List Code} {l : Nat} (hs : spine c = some (xs, l, y)) {env : Env} {a : Act} {w : World}
    (h : codeL (wpM P) P n QP xs (backF (wpM P) P n QP l y Q) env w) (sim : Sim n D env a) : (Code.scope c).wp P (LiftX n D QP Q) a w := by
  have find : ∀ {c : Code} {xs : List Code}, spine c = some (xs, l, y) → findLabel c l = some (.seq .skip y) := by
    intro c
    induction c with
    | seq a b iha ihb =>
      intro xs hs
      by_cases ha : ∃ l', a = .label l'
      · obtain ⟨l', rfl⟩ := ha
        simp only [spine, Option.some.injEq, Prod.mk.injEq] at hs
        obtain ⟨_, rfl, rfl⟩ := hs
        simp [findLabel]
      · have hsp : spine (.seq a b) = bif noLab a then (match spine b with | some (xs, l, y) => some (a :: xs, l, y) | none => none) else none := by
          cases a <;> first | rfl | exact absurd ⟨_, rfl⟩ ha
        rw [hsp] at hs
        cases hn : noLab a with
        | false => rw [hn] at hs; cases hs
        | true =>
          rw [hn] at hs
          simp only [cond_true] at hs
          cases hb : spine b with
          | none => rw [hb] at hs; cases hs
          | some q =>
            obtain ⟨xs', l', y'⟩ := q
            rw [hb] at hs
            simp only [Option.some.injEq, Prod.mk.injEq] at hs
            obtain ⟨_, rfl, rfl⟩ := hs
            simp only [findLabel, noLab_none hn, ihb hb]
    | _ => intro xs hs; cases hs
  intro b k cs
  have hg : gotoIn l (.inScope c :: k) = some (.code (.seq .skip y) :: .inScope c :: k) := by simp [gotoIn, find hs]
  -- from the label on
  have keyY : ∀ {env : Env} {a : Act} {w : World}, backF (wpM P) P n QP l y Q .normal env w → Sim n D env a →
      ∃ e a' w', LiftX n D QP Q e a' w' ∧ Arrives P (lone (b.at a (.code y :: .inScope c :: k)) cs w) b k cs e a' w' := by
    intro env a w h sim
    simp only [backF, forceD_eq, forceS_eq] at h
    obtain ⟨r₀, h, hr₀⟩ := getSlots_el h
    obtain ⟨R, I, μ, s₀, h0, hround⟩ := h
    have go : ∀ (m : Nat) (s : R) (r : Tup (shapes (slotsOf env (dsts y) []))) (a' : Act) (w' : World), μ s = m → I s r w' → Sim n D (setSlots (forget env (dsts y)) (slotsOf env (dsts y) []) r) a' → Keeps (dsts y) a a' →
        ∃ e a'' w'', LiftX n D QP Q e a'' w'' ∧ Arrives P (lone (b.at a' (.code y :: .inScope c :: k)) cs w') b k cs e a'' w'' := by
      intro m
      induction m using Nat.strongRecOn with
      | _ m ih =>
        intro s r a' w' hm hI hsim hk
        obtain ⟨e, a₁, w₁, hq, harr⟩ := codeF_sound y _ _ a' w' (hround s r w' hI) hsim b (.inScope c :: k) cs
        cases e with
        | normal =>
          obtain ⟨env', h1, _, h3⟩ := hq
          exact ⟨.normal, a₁, w₁, ⟨env', h1, h3⟩, Steps.trans harr (.one step_inScope)⟩
        | exit id =>
          obtain ⟨env', h1, _, h3⟩ := hq
          exact ⟨.exit id, a₁, w₁, ⟨env', h1, h3⟩, fun k' hk => harr k' (by simp [exitTo, hk])⟩
        | goto l' =>
          obtain ⟨env', h1, h2, h3⟩ := hq
          cases hl : Nat.beq l' l with
          | false => simp only [hl, cond_false] at h3; exact h3.elim
          | true =>
            simp only [hl, cond_true] at h3
            obtain rfl := Nat.eq_of_beq_eq_true hl
            obtain ⟨r', ⟨s', hI', hlt⟩, hr'⟩ := getSlots_el h3
            obtain ⟨e₂, a₂, w₂, hq₂, harr₂⟩ := ih (μ s') (hm ▸ hlt) s' r' a₁ w₁ rfl hI' (sim.reslot h1 (hk.trans h2) hr') (hk.trans h2)
            exact ⟨e₂, a₂, w₂, hq₂, .of_steps (Steps.trans (harr _ hg) (.head step_seq (.one step_skip))) harr₂⟩
        | ret =>
          obtain ⟨env', h1, _, h3⟩ := hq
          exact ⟨.ret, a₁, w₁, ⟨env', h1, h3⟩, harr⟩
        | panic ch => exact ⟨.panic ch, a₁, w₁, hq, harr⟩
        | outgrown => exact hq.elim
    exact go _ s₀ r₀ a w rfl h0 (sim.reslot sim (Keeps.refl _ _) hr₀) (Keeps.refl _ _)
  have pre : ∀ (c' : Code) (xs : List Code) (env : Env) (a : Act) (w : World), spine c' = some (xs, l, y) → codeL (wpM P) P n QP xs (backF (wpM P) P n QP l y Q) env w → Sim n D env a →
      ∃ e a' w', LiftX n D QP Q e a' w' ∧ Arrives P (lone (b.at a (.code c' :: .inScope c :: k)) cs w) b k cs e a' w' := by
    intro c'
    induction c' with
    | seq x z ihx ihz =>
      intro xs env a w hsp h sim
      by_cases hx : ∃ l', x = .label l'
      · obtain ⟨l', rfl⟩ := hx
        simp only [spine, Option.some.injEq, Prod.mk.injEq] at hsp
        obtain ⟨rfl, rfl, rfl⟩ := hsp
        obtain ⟨e, a', w', hq, harr⟩ := keyY h sim
        exact ⟨e, a', w', hq, .of_steps (.head step_seq (.one step_label)) harr⟩
      · have hdef : spine (.seq x z) = bif noLab x then (match spine z with | some (xs, l, y) => some (x :: xs, l, y) | none => none) else none := by
          cases x <;> first | rfl | exact absurd ⟨_, rfl⟩ hx
        rw [hdef] at hsp
        cases hn : noLab x with
        | false => rw [hn] at hsp; cases hsp
        | true =>
          rw [hn] at hsp
          simp only [cond_true] at hsp
          cases hz : spine z with
          | none => rw [hz] at hsp; cases hsp
          | some q =>
            obtain ⟨xs', l', y'⟩ := q
            rw [hz] at hsp
            simp only [Option.some.injEq, Prod.mk.injEq] at hsp
            obtain ⟨rfl, rfl, rfl⟩ := hsp
            obtain ⟨e, a₁, w₁, hq, harr⟩ := codeF_sound x _ _ a w h sim b (.code z :: .inScope c :: k) cs
            cases e with
            | normal =>
              obtain ⟨env', h1, _, h3⟩ := hq
              obtain ⟨e₂, a₂, w₂, hq₂, harr₂⟩ := ihz xs' env' a₁ w₁ hz h3 h1
              exact ⟨e₂, a₂, w₂, hq₂, .of_steps (.head step_seq harr) harr₂⟩
            | exit id =>
              obtain ⟨env', h1, _, h3⟩ := hq
              exact ⟨.exit id, a₁, w₁, ⟨env', h1, h3⟩, fun k' hk => .head step_seq (harr k' (by simp [exitTo, hk]))⟩
            | goto l'' => obtain ⟨env', _, _, h3⟩ := hq; exact h3.elim
            | ret =>
              obtain ⟨env', h1, _, h3⟩ := hq
              exact ⟨.ret, a₁, w₁, ⟨env', h1, h3⟩, .of_steps (.one step_seq) harr⟩
            | panic ch => exact ⟨.panic ch, a₁, w₁, hq, .of_steps (.one step_seq) harr⟩
            | outgrown => exact hq.elim
    | _ => intro xs env a w hsp; cases hsp
  obtain ⟨e, a', w', hq, harr⟩ := pre c xs env a w hs h sim
  exact ⟨e, a', w', hq, .of_steps (.one step_scope) harr⟩

theorem funcG_sound {f : FuncId} {fn : Func} {args : List Value} {w : World} {ret : Value → World → Prop} {pan : List PanicEntry → World → Prop} (hf : P.funcs[f]? = some fn)
    (h : funcG (wpM P) P fn args ret pan w) : Calls P f args.toArray w fun
      | .returned v, w' => ret v w'
      | .panicked c, w' => pan c w'
      | .outgrown, _ => False := by
  unfold funcG at h
  cases hp : gotoParts fn.body with
  | none => rw [hp] at h; exact h.elim
  | some q =>
    obtain ⟨pre, xs, l, y⟩ := q
    rw [hp] at h
    obtain ⟨c, hb, hs⟩ := gotoParts_eq hp
    refine calls_of_wp hf hb (wp_seq (wp_mono (codeF_sound pre _ _ _ w h (argSim fn args)) fun e a w' hl => ?_))
    cases e with
    | normal =>
      obtain ⟨env, hsim, _, hq⟩ := hl
      refine wp_mono (scope_sound hs hq hsim) fun e a' w'' hl => ?_
      cases e with
      | normal => obtain ⟨env, hs, hq⟩ := hl; exact ⟨hs.defers, resF_el hq hs⟩
      | ret => obtain ⟨env, hs, hq⟩ := hl; exact ⟨hs.defers, resF_el hq hs⟩
      | panic c => obtain ⟨env, hs, hq⟩ := hl; exact ⟨hs.defers, hq⟩
      | outgrown => exact hl
      | exit i => obtain ⟨env, hs, hq⟩ := hl; exact hq.elim
      | goto i => obtain ⟨env, hs, hq⟩ := hl; exact hq.elim
    | ret => obtain ⟨env, hs, _, hq⟩ := hl; exact ⟨hs.defers, resF_el hq hs⟩
    | panic c => obtain ⟨env, hs, hq⟩ := hl; exact ⟨hs.defers, hq⟩
    | outgrown => exact hl
    | exit i => obtain ⟨env, hs, _, hq⟩ := hl; exact hq.elim
    | goto i => obtain ⟨env, hs, _, hq⟩ := hl; exact hq.elim
end

theorem ent_callG {e : Still} {l : List HP} {P : Program} {f : FuncId} {fn : Func} {args : List Value} {ss : List Shp} {K : Tup ss → World → Prop} {KP : List PanicEntry → World → Prop} (hf : P.funcs[f]? = some fn)
    (h : ent e l (funcG (wpM P) P fn args (fun v => getRes ss v K) KP)) : ent e l ((wpM P).call f args ss K KP) := by
  intro w hw
  refine (funcG_sound hf (h w hw)).mono ?_
  intro en w' hr
  cases en with
  | returned v => exact getRes_el hr
  | panicked c => exact hr
  | outgrown => exact hr

end Hl
end Go.Proofs.Ytdmfnlcbfmahhaa
