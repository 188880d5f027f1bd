/- The evaluator over a function's whole body, and its soundness. -/
import Derived.Test.YtdmfnlcbfmahhaaHlCanon
namespace Go.Proofs.Ytdmfnlcbfmahhaa
namespace Hl
open Go

def dsts : Code → List Nat
  | .region _ ops _ => dstsOf ops.toList
  | .seq a b => dsts a ++ dsts b
  | .cond _ a b => dsts a ++ dsts b
  | .block _ a => dsts a
  | .loop a => dsts a
  | _ => []

def isRegion : Code → Bool
  | .region _ _ _ => true
  | _ => false

/-- How many ways through a piece of code end at its end (from two on: two or more). -/
def ends : Code → Nat
  | .region _ ops _ => bif ops.toList.any (fun o => o.guard.isSome) then 2 else 1
  | .seq a b => bif isRegion a then ends a * ends b else (bif Nat.beq (ends a) 0 then 0 else ends b)
  | .cond _ a b => ends a + ends b
  | .block _ _ => 1
  | .skip => 1
  | .label _ => 1
  | _ => 0

def exitsTo (id : Nat) : Code → Nat
  | .seq a b => exitsTo id a + (bif isRegion a then ends a * exitsTo id b else (bif Nat.beq (ends a) 0 then 0 else exitsTo id b))
  | .cond _ a b => exitsTo id a + exitsTo id b
  | .block id' a => bif Nat.beq id id' then 0 else exitsTo id a
  | .loop a => exitsTo id a
  | .exit id' => bif Nat.beq id id' then 1 else 0
  | _ => 0

/-- Slots that are surely written where a piece of code ends at its end. -/
def sure : Code → List Nat
  | .region _ ops _ => dstsOf ops.toList
  | .seq a b => sure a ++ sure b
  | .cond _ a b => bif Nat.beq (ends a) 0 then sure b else (bif Nat.beq (ends b) 0 then sure a else (sure a).filter fun d => (sure b).contains d)
  | _ => []

def typeAt (d : Nat) : List Oper → Option TypeId
  | [] => none
  | o :: os => match o.dst with
    | some d' => bif Nat.beq d d' then some o.type else typeAt d os
    | none => typeAt d os

def typeOf (d : Nat) : Code → Option TypeId
  | .region _ ops _ => typeAt d ops.toList
  | .seq a b => match typeOf d a with | some t => some t | none => typeOf d b
  | .cond _ a b => match typeOf d a with | some t => some t | none => typeOf d b
  | .block _ a => typeOf d a
  | .loop a => typeOf d a
  | _ => none

abbrev Slots := List (Nat × Shp)

def countIn (d : Nat) : List Nat → Nat
  | [] => 0
  | e :: l => bif Nat.beq d e then countIn d l + 1 else countIn d l

/-- Slots that were unknown, and are written on each of several ways. -/
def extraOf (P : Program) (env : Env) (a : Code) (ds : List Nat) : List Nat → List Nat → Slots
  | [], _ => []
  | d :: l, seen => bif seen.contains d || !(Nat.ble 2 (countIn d ds)) then extraOf P env a ds l seen else
    match env d, (typeOf d a).bind (shpIn P) with
    | none, some s => (d, s) :: extraOf P env a ds l (d :: seen)
    | _, _ => extraOf P env a ds l (d :: seen)

def shapes : Slots → List Shp
  | [] => []
  | (_, s) :: l => s :: shapes l

/-- Of the slots that are written: those that hold something. -/
def slotsOf (env : Env) : List Nat → List Nat → Slots
  | [], _ => []
  | d :: ds, seen => bif seen.contains d then slotsOf env ds seen else
    match env d with
    | none => slotsOf env ds (d :: seen)
    | some (.tuple _) => slotsOf env ds (d :: seen)
    | some v => (d, shpOf v) :: slotsOf env ds (d :: seen)

def setSlots (env : Env) : (l : Slots) → Tup (shapes l) → Env
  | [], _ => env
  | (d, s) :: l, r => (setSlots env l r.2).upd d (some (s.inj r.1))

/-- Lists that are reckoned out before they are used. -/
def forceD {α : Type} (l : List Nat) (f : List Nat → α) : α := match l with | [] => f [] | d :: l => force d fun d => forceD l fun l => f (d :: l)

def forceS {α : Type} (l : Slots) (f : Slots → α) : α := match l with | [] => f [] | (d, s) :: l => forceS l fun l => f ((d, s) :: l)

theorem forceD_eq {α : Type} (l : List Nat) : ∀ (f : List Nat → α), forceD l f = f l := by
  induction l with
  | nil => intro f; rfl
  | cons d l ih => intro f; simp only [forceD, force_eq, ih]

theorem forceS_eq {α : Type} (l : Slots) : ∀ (f : Slots → α), forceS l f = f l := by
  induction l with
  | nil => intro f; rfl
  | cons d l ih => intro f; obtain ⟨d, s⟩ := d; simp only [forceS, ih]

section
variable {T : Type} (M : Prims T) (P : Program) (n : Nat)

def getKind : (k : Kind) → Value → (k.T → T) → T
  | .int k, .int k' x, K => bif decide (k = k') then K x else M.fail
  | .bool, .bool b, K => K b
  | .ptr, .pointer p, K => K p
  | .slice, .slice a l c, K => K ⟨a, l, c⟩
  | .any, v, K => K v
  | _, _, _ => M.fail

def getRow : (ks : List Kind) → List Value → (Row ks → T) → T
  | [], [], K => K ()
  | k :: ks, v :: vs, K => getKind M k v fun x => getRow ks vs fun r => K (x, r)
  | _, _, _ => M.fail

def getShp : (s : Shp) → Option Value → (s.T → T) → T
  | .one k, some v, K => getKind M k v K
  | .agg ks, some (.agg cs), K => getRow M ks cs.toList K
  | _, _, _ => M.fail

def getSlots (env : Env) : (l : Slots) → (Tup (shapes l) → T) → T
  | [], K => K ()
  | (d, s) :: l, K => getShp M s (env d) fun x => getSlots env l fun r => K (x, r)

def joinF (ds : List Nat) (more : Slots) (env : Env) (f : Env → T) (g : (Env → T) → T) : T :=
  forceD ds fun ds => forceS (slotsOf env ds [] ++ more) fun l =>
  M.join (shapes l) (fun r => f (setSlots (forget env ds) l r)) (fun k => g fun env' => getSlots M env' l k)

def codeF (QP : List PanicEntry → Env → T) : Code → (Exit → Env → T) → Env → T
  | .skip, Q, env => Q .normal env
  | .label _, Q, env => Q .normal env
  | .region _ ops draw, Q, env => regionF M P n ops draw QP (Q .normal) env
  | .seq a b, Q, env =>
    bif (!(isRegion a)) && Nat.ble 2 (ends a) then
      joinF M (dsts a) (extraOf P env a (dsts a) (sure a) []) env (codeF QP b Q) fun k => codeF QP a (fun e env' => match e with | .normal => k env' | e => Q e env') env
    else codeF QP a (fun e env' => match e with | .normal => codeF QP b Q env' | e => Q e env') env
  | .cond c a b, Q, env => wBool M (evalO env c) fun t => bif t then codeF QP a Q env else codeF QP b Q env
  | .block id a, Q, env =>
    bif Nat.ble 2 (ends a + exitsTo id a) then
      joinF M (dsts a) [] env (Q .normal) fun k => codeF QP a (fun e env' => match e with | .normal => k env' | .exit i => bif Nat.beq i id then k env' else Q (.exit i) env' | e => Q e env') env
    else codeF QP a (fun e env' => match e with | .exit i => bif Nat.beq i id then Q .normal env' else Q (.exit i) env' | e => Q e env') env
  | .loop a, Q, env =>
    forceD (dsts a) fun ds => forceS (slotsOf env ds []) fun l =>
    getSlots M env l fun r₀ => M.loop (shapes l) r₀ fun k r =>
      codeF QP a (fun e env' => match e with | .normal => getSlots M env' l k | e => Q e env') (setSlots (forget env ds) l r)
  | .exit id, Q, env => Q (.exit id) env
  | .goto l, Q, env => Q (.goto l) env
  | .ret, Q, env => Q .ret env
  | _, _, _ => M.fail
end

/-! ## Soundness -/

section
variable {P : Program} {n : Nat} {D : List Deferred}

theorem getKind_el {k : Kind} {v : Value} {K : k.T → World → Prop} {w : World} (h : getKind (wpM P) k v K w) : ∃ x, v = k.inj x ∧ K x w := by
  cases k with
  | int k =>
    cases v with
    | int k' x =>
      simp only [getKind] at h
      cases hk : decide (k = k') with
      | false => rw [hk] at h; exact h.elim
      | true => rw [hk] at h; obtain rfl := of_decide_eq_true hk; exact ⟨x, rfl, h⟩
    | _ => exact h.elim
  | bool => cases v <;> first | exact ⟨_, rfl, h⟩ | exact h.elim
  | ptr => cases v <;> first | exact ⟨_, rfl, h⟩ | exact h.elim
  | slice => cases v <;> first | exact ⟨⟨_, _, _⟩, rfl, h⟩ | exact h.elim
  | any => exact ⟨v, rfl, h⟩

theorem getRow_el : ∀ {ks : List Kind} {vs : List Value} {K : Row ks → World → Prop} {w : World}, getRow (wpM P) ks vs K w → ∃ r, vs = Row.vals ks r ∧ K r w
  | [], [], _, _, h => ⟨(), rfl, h⟩
  | [], _ :: _, _, _, h => h.elim
  | _ :: _, [], _, _, h => h.elim
  | k :: ks, v :: vs, K, w, h => by
    obtain ⟨x, hx, h⟩ := getKind_el h
    obtain ⟨r, hr, h⟩ := getRow_el h
    exact ⟨(x, r), by rw [hx, hr]; rfl, h⟩

theorem getShp_el {s : Shp} {v : Option Value} {K : s.T → World → Prop} {w : World} (h : getShp (wpM P) s v K w) : ∃ x, v = some (s.inj x) ∧ K x w := by
  cases s with
  | one k =>
    cases v with
    | none => exact h.elim
    | some v => obtain ⟨x, hx, h⟩ := getKind_el (k := k) h; exact ⟨x, by rw [hx]; rfl, h⟩
  | agg ks =>
    cases v with
    | none => exact h.elim
    | some v =>
      cases v with
      | agg cs =>
        obtain ⟨r, hr, h⟩ := getRow_el (ks := ks) h
        refine ⟨r, ?_, h⟩
        have : cs = (Row.vals ks r).toArray := Array.toList_inj.1 (by rw [hr])
        rw [this]; rfl
      | _ => exact h.elim

theorem getSlots_el {env : Env} : ∀ {l : Slots} {K : Tup (shapes l) → World → Prop} {w : World}, getSlots (wpM P) env l K w →
    ∃ r, K r w ∧ ∀ (base : Env) (d : Nat), setSlots base l r d = env d ∨ setSlots base l r d = base d
  | [], _, _, h => ⟨(), h, fun _ _ => .inr rfl⟩
  | (d, s) :: l, K, w, h => by
    obtain ⟨x, hx, h⟩ := getShp_el h
    obtain ⟨r, hr, hs⟩ := getSlots_el h
    refine ⟨(x, r), hr, fun base e => ?_⟩
    simp only [setSlots]
    by_cases he : e = d
    · subst he; rw [upd_same]; exact .inl hx.symm
    · rw [upd_other _ _ he]; exact hs base e

/-- What a frame is known to hold once all that was written but some slots is forgotten. -/
theorem Sim.reslot {env env' : Env} {a a' : Act} (h : Sim n D env a) (h' : Sim n D env' a') {ds : List Nat} (hk : Keeps ds a a') {l : Slots} {r : Tup (shapes l)}
    (hr : ∀ (base : Env) (d : Nat), setSlots base l r d = env' d ∨ setSlots base l r d = base d) : Sim n D (setSlots (forget env ds) l r) a' := by
  refine ⟨h'.size, h'.defers, fun d v hv => ?_⟩
  rcases hr (forget env ds) d with e | e
  · exact h'.slot d v (by rw [← e]; exact hv)
  · rw [e, forget_get] at hv
    split at hv
    · cases hv
    · rename_i hd; rw [hk d hd]; exact h.slot d v hv

/-- What is asked of a piece of code's ends, over frames. -/
def Lift (n : Nat) (D : List Deferred) (ds : List Nat) (a₀ : Act) (QP : List PanicEntry → Env → World → Prop) (Q : Exit → Env → World → Prop) : Exit → Act → World → Prop
  | .panic c, a, w => ∃ env, Sim n D env a ∧ QP c env w
  | .outgrown, _, _ => False
  | e, a, w => ∃ env, Sim n D env a ∧ Keeps ds a₀ a ∧ Q e env w

theorem Lift.mono {ds ds' : List Nat} {a₀ a₁ : Act} {QP : List PanicEntry → Env → World → Prop} {Q Q' : Exit → Env → World → Prop} {e : Exit} {a : Act} {w : World} (h : Lift n D ds a₁ QP Q e a w)
    (hk : Keeps ds' a₀ a₁) (hs : ∀ d, d ∈ ds → d ∈ ds') (hq : ∀ env w, Q e env w → Q' e env w) : Lift n D ds' a₀ QP Q' e a w := by
  cases e with
  | panic c => exact h
  | outgrown => exact h
  | _ => obtain ⟨env, h1, h2, h3⟩ := h; exact ⟨env, h1, hk.trans (h2.mono hs), hq _ _ h3⟩

theorem wp_loop_ghost {R : Type} {c : Code} {Qx : Exit → Act → World → Prop} (I : R → Act → World → Prop) (μ : R → World → Nat)
    (round : ∀ r a w, I r a w → c.wp P (Exit.then (fun a' w' => ∃ r', I r' a' w' ∧ μ r' w' < μ r w) Qx) a w) {r : R} {a : Act} {w : World} (h : I r a w) : (Code.loop c).wp P Qx a w := by
  intro b k cs
  have key : ∀ (m : Nat) (r : R) (a : Act) (w : World), μ r w = m → I r a w → ∃ e a' w', Qx e a' w' ∧ Arrives P (lone (b.at a (.code c :: .inLoop c :: k)) cs w) b k cs e a' w' := by
    intro m
    induction m using Nat.strongRecOn with
    | _ m ih =>
      intro r a w hm hI
      obtain ⟨e, a₁, w₁, hq, harr⟩ := round r a w hI b (.inLoop c :: k) cs
      cases e with
      | normal =>
        obtain ⟨r', hI', hlt⟩ := hq
        obtain ⟨e₂, a₂, w₂, hq₂, harr₂⟩ := ih (μ r' w₁) (hm ▸ hlt) r' a₁ w₁ rfl hI'
        exact ⟨e₂, a₂, w₂, hq₂, .of_steps (Steps.trans harr (.one step_inLoop)) harr₂⟩
      | exit id => exact ⟨_, a₁, w₁, hq, .pass (x := .inLoop c) rfl (fun _ _ => .inl (by simp)) harr⟩
      | goto l => exact ⟨_, a₁, w₁, hq, .pass (x := .inLoop c) rfl (fun _ _ => .inl (by simp)) harr⟩
      | ret => exact ⟨_, a₁, w₁, hq, .pass (x := .inLoop c) rfl (fun _ _ => .inl (by simp)) harr⟩
      | panic ch => exact ⟨_, a₁, w₁, hq, .pass (x := .inLoop c) rfl (fun _ _ => .inl (by simp)) harr⟩
      | outgrown => exact ⟨_, a₁, w₁, hq, .pass (x := .inLoop c) rfl (fun _ _ => .inl (by simp)) harr⟩
  obtain ⟨e, a', w', hq, harr⟩ := key _ r a w rfl h
  exact ⟨e, a', w', hq, .of_steps (.one step_loop) harr⟩

theorem codeF_sound {QP : List PanicEntry → Env → World → Prop} (c : Code) : ∀ (Q : Exit → Env → World → Prop) (env : Env) (a : Act) (w : World),
    codeF (wpM P) P n QP c Q env w → Sim n D env a → c.wp P (Lift n D (dsts c) a QP Q) a w := by
  induction c with
  | skip => intro Q env a w h hs; exact wp_skip ⟨env, hs, Keeps.refl _ _, h⟩
  | label l => intro Q env a w h hs; exact wp_label ⟨env, hs, Keeps.refl _ _, h⟩
  | exit id => intro Q env a w h hs; exact wp_exit ⟨env, hs, Keeps.refl _ _, h⟩
  | goto l => intro Q env a w h hs; exact wp_goto ⟨env, hs, Keeps.refl _ _, h⟩
  | ret => intro Q env a w h hs; exact wp_ret ⟨env, hs, Keeps.refl _ _, h⟩
  | region id ops draw =>
    intro Q env a w h hs
    exact regionF_sound h hs (fun env' a' w' h1 h2 h3 => ⟨env', h1, h2, h3⟩) (fun c env' a' w' h1 h2 => ⟨env', h1, h2⟩)
  | cond x c₁ c₂ ih₁ ih₂ =>
    intro Q env a w h hs
    simp only [codeF] at h
    cases hx : evalO env x with
    | none => rw [hx] at h; exact h.elim
    | some v =>
      rw [hx] at h
      cases v with
      | bool t =>
        have hv := hs.eval hx
        cases t with
        | true => exact wp_cond_true hv (wp_mono (ih₁ Q env a w h hs) fun e a' w' hl => hl.mono (Keeps.refl _ _) (fun d hd => List.mem_append_left _ hd) fun _ _ hq => hq)
        | false => exact wp_cond_false hv (wp_mono (ih₂ Q env a w h hs) fun e a' w' hl => hl.mono (Keeps.refl _ _) (fun d hd => List.mem_append_right _ hd) fun _ _ hq => hq)
      | _ => exact h.elim
  | seq c₁ c₂ ih₁ ih₂ =>
    intro Q env a w h hs
    simp only [codeF] at h
    have hl : ∀ d, d ∈ dsts c₁ → d ∈ dsts (.seq c₁ c₂) := fun d hd => List.mem_append_left _ hd
    have hr : ∀ d, d ∈ dsts c₂ → d ∈ dsts (.seq c₁ c₂) := fun d hd => List.mem_append_right _ hd
    refine wp_seq ?_
    cases hj : (!(isRegion c₁)) && Nat.ble 2 (ends c₁) with
    | false =>
      rw [hj] at h
      refine wp_mono (ih₁ _ env a w h hs) fun e a' w' hq => ?_
      cases e with
      | normal =>
        obtain ⟨env', h1, h2, h3⟩ := hq
        exact wp_mono (ih₂ Q env' a' w' h3 h1) fun e a'' w'' hl' => hl'.mono (h2.mono hl) hr fun _ _ hq => hq
      | panic c => exact hq
      | outgrown => exact hq
      | _ => exact hq.mono (Keeps.refl _ _) hl fun _ _ hq => hq
    | true =>
      simp only [hj, cond_true, joinF, forceD_eq, forceS_eq] at h
      refine wp_mono (ih₁ _ env a w h hs) fun e a' w' hq => ?_
      cases e with
      | normal =>
        obtain ⟨env', h1, h2, h3⟩ := hq
        obtain ⟨r, hf, hr'⟩ := getSlots_el h3
        exact wp_mono (ih₂ Q _ a' w' hf (hs.reslot h1 h2 hr')) fun e a'' w'' hl' => hl'.mono (h2.mono hl) hr fun _ _ hq => hq
      | panic c => exact hq
      | outgrown => exact hq
      | _ => exact hq.mono (Keeps.refl _ _) hl fun _ _ hq => hq
  | block id c ih =>
    intro Q env a w h hs
    simp only [codeF] at h
    refine wp_block ?_
    cases hj : Nat.ble 2 (ends c + exitsTo id c) with
    | false =>
      rw [hj] at h
      refine wp_mono (ih _ env a w h hs) fun e a' w' hq => ?_
      cases e with
      | exit i =>
        obtain ⟨env', h1, h2, h3⟩ := hq
        cases hi : Nat.beq i id with
        | true => simp only [hi, cond_true] at h3; simp only [Exit.inBlock, Nat.eq_of_beq_eq_true hi, if_true]; exact ⟨env', h1, h2, h3⟩
        | false =>
          simp only [hi, cond_false] at h3
          have hne : i ≠ id := fun e => by rw [e, Nat.beq_refl] at hi; cases hi
          simp only [Exit.inBlock, hne, if_false]; exact ⟨env', h1, h2, h3⟩
      | panic c => exact hq
      | outgrown => exact hq
      | _ => exact hq
    | true =>
      simp only [hj, cond_true, joinF, forceD_eq, forceS_eq] at h
      refine wp_mono (ih _ env a w h hs) fun e a' w' hq => ?_
      cases e with
      | exit i =>
        obtain ⟨env', h1, h2, h3⟩ := hq
        cases hi : Nat.beq i id with
        | true =>
          simp only [hi, cond_true] at h3
          simp only [Exit.inBlock, Nat.eq_of_beq_eq_true hi, if_true]
          obtain ⟨r, hf, hr'⟩ := getSlots_el h3
          exact ⟨_, hs.reslot h1 h2 hr', h2, hf⟩
        | false =>
          simp only [hi, cond_false] at h3
          have hne : i ≠ id := fun e => by rw [e, Nat.beq_refl] at hi; cases hi
          simp only [Exit.inBlock, hne, if_false]; exact ⟨env', h1, h2, h3⟩
      | normal =>
        obtain ⟨env', h1, h2, h3⟩ := hq
        obtain ⟨r, hf, hr'⟩ := getSlots_el h3
        exact ⟨_, hs.reslot h1 h2 hr', h2, hf⟩
      | panic c => exact hq
      | outgrown => exact hq
      | _ => exact hq
  | loop c ih =>
    intro Q env a w h hs
    simp only [codeF, forceD_eq, forceS_eq] at h
    obtain ⟨r₀, h, hr₀⟩ := getSlots_el h
    obtain ⟨R, I, μ, s₀, h0, hround⟩ := h
    refine wp_loop_ghost (R := R) (fun s a' w' => ∃ r, I s r w' ∧ Sim n D (setSlots (forget env (dsts c)) (slotsOf env (dsts c) []) r) a' ∧ Keeps (dsts c) a a') (fun s _ => μ s) ?_ (r := s₀) ⟨r₀, h0, hs.reslot hs (Keeps.refl _ _) hr₀, Keeps.refl _ _⟩
    rintro s a' w' ⟨r, hI, hs', hk⟩
    refine wp_mono (ih _ _ a' w' (hround s r w' hI) hs') fun e a'' w'' hq => ?_
    cases e with
    | normal =>
      obtain ⟨env', h1, h2, h3⟩ := hq
      obtain ⟨r', ⟨s', hI', hlt⟩, hr'⟩ := getSlots_el h3
      exact ⟨s', ⟨r', hI', hs.reslot h1 (hk.trans h2) hr', hk.trans h2⟩, hlt⟩
    | panic c => exact hq
    | outgrown => exact hq
    | _ => obtain ⟨env', h1, h2, h3⟩ := hq; exact ⟨env', h1, hk.trans h2, h3⟩
  | _ => intro Q env a w h _; exact h.elim

/-! ## A whole function -/

def argEnv : List Value → Nat → Env
  | [], _ => fun _ => none
  | v :: vs, i => (argEnv vs (i + 1)).upd i (some v)

def resL {T : Type} (M : Prims T) (P : Program) (env : Env) : List ResultVar → (List Value → T) → T
  | [], K => K []
  | .tmp t :: l, K => wV M (env t) fun v => resL M P env l fun vs => K (v :: vs)
  | .cell t ty :: l, K => wPtr M (env t) fun p => dr M.fail p fun a => match shpIn P ty, aggIn P ty with
    | some (.one k), some false => M.load (.one k) a fun x => resL M P env l fun vs => K (k.inj x :: vs)
    | some (.agg ks), some true => bif (match sizeIn P ty with | some n => Nat.beq n ks.length | none => false)
        then M.load (.agg ks) a fun x => resL M P env l fun vs => K (Shp.inj (.agg ks) x :: vs) else M.fail
    | _, _ => M.fail

def oneOf : List Value → Value
  | [v] => v
  | vs => .tuple vs.toArray

/-- What a function's ends come to: its results, read. -/
def resF {T : Type} (M : Prims T) (P : Program) (fn : Func) (ret : Value → T) (env : Env) : T := resL M P env fn.results.toList fun vs => ret (oneOf vs)

def endF {T : Type} (M : Prims T) (P : Program) (fn : Func) (ret : Value → T) (e : Exit) (env : Env) : T :=
  match e with
  | .normal | .ret => resF M P fn ret env
  | _ => M.fail

/-- A call's meaning, as a term over the primitive operations. -/
def funcF {T : Type} (M : Prims T) (P : Program) (fn : Func) (args : List Value) (ret : Value → T) (pan : List PanicEntry → T) : T :=
  match fn.body with
  | some c => codeF M P (max fn.ntmps args.length) (fun c _ => pan c) c (endF M P fn ret) (argEnv args 0)
  | none => M.fail

theorem argEnv_get : ∀ (vs : List Value) (i d : Nat) (v : Value), argEnv vs i d = some v → i ≤ d ∧ vs[d - i]? = some v
  | [], i, d, v, h => by simp [argEnv] at h
  | x :: vs, i, d, v, h => by
    simp only [argEnv] at h
    by_cases hd : d = i
    · subst hd; rw [upd_same] at h; exact ⟨Nat.le_refl _, by simpa using h⟩
    · rw [upd_other _ _ hd] at h
      obtain ⟨h1, h2⟩ := argEnv_get vs (i + 1) d v h
      refine ⟨by omega, ?_⟩
      rw [show d - i = (d - (i + 1)) + 1 by omega, List.getElem?_cons_succ]; exact h2

def readRes (tmps : Array Value) : ResultVar → Sem Value
  | .tmp t => pure (tmps.getD t undef)
  | .cell q t => do let a ← asAddr (tmps.getD q undef); loadVar t a

theorem resL_el {env : Env} {w : World} {a : Act} (hs : Sim n D env a) : ∀ {l : List ResultVar} {K : List Value → World → Prop}, resL (wpM P) P env l K w →
    ∃ vs, (l.mapM (readRes a.tmps)).run P w = Result.ok vs w ∧ K vs w
  | [], K, h => ⟨[], rfl, h⟩
  | .tmp t :: l, K, h => by
    obtain ⟨v, hv, h⟩ := wV_el h
    obtain ⟨vs, hr, hk⟩ := resL_el hs h
    have hg : a.tmps.getD t undef = v := by simp [Array.getD_eq_getD_getElem?, hs.slot t v hv]
    refine ⟨v :: vs, ?_, hk⟩
    rw [List.mapM_cons]
    simp only [readRes, Sem.run_bind, Sem.run_pure, Result.andThen_ok, hr, hg]
  | .cell t ty :: l, K, h => by
    obtain ⟨p, hp, h⟩ := wPtr_el h
    obtain ⟨ad, rfl, h⟩ := dr_el h
    have hg : a.tmps.getD t undef = .pointer (some ad) := by simp [Array.getD_eq_getD_getElem?, hs.slot t _ hp]
    have key : ∀ v vs, (loadVar ty ad).run P w = .ok v w → (l.mapM (readRes a.tmps)).run P w = Result.ok vs w → ((ResultVar.cell t ty :: l).mapM (readRes a.tmps)).run P w = Result.ok (v :: vs) w := by
      intro v vs h1 h2
      rw [List.mapM_cons]
      simp only [readRes, Sem.run_bind, hg, asAddr, Sem.run_pure, Result.andThen_ok, h1, h2]
    cases hsh : shpIn P ty with
    | none => rw [hsh] at h; exact h.elim
    | some s =>
      cases hag : aggIn P ty with
      | none => rw [hsh, hag] at h; cases s <;> exact h.elim
      | some b =>
        rw [hsh, hag] at h
        cases s with
        | one k =>
          cases b with
          | true => exact h.elim
          | false =>
            obtain ⟨x, hx, h⟩ := h
            obtain ⟨vs, hr, hk⟩ := resL_el hs h
            have := hx 0 _ rfl
            rw [add_zero'] at this
            exact ⟨_, key _ _ (by simp only [loadVar, Sem.run_bind, run_isAgg_some hag, Result.andThen_ok, Bool.false_eq_true, if_false]; exact run_load_some this) hr, hk⟩
        | agg ks =>
          cases b with
          | false => exact h.elim
          | true =>
            cases hz : sizeIn P ty with
            | none => simp only [hz, cond_false] at h; exact h.elim
            | some m =>
              simp only [hz] at h
              cases hb : Nat.beq m ks.length with
              | false => rw [hb] at h; exact h.elim
              | true =>
                rw [hb] at h
                obtain rfl := Nat.eq_of_beq_eq_true hb
                obtain ⟨x, hx, h⟩ := h
                obtain ⟨vs, hr, hk⟩ := resL_el hs h
                have := run_loadCells (P := P) (w := w) (x := ad) hx
                simp only [Shp.cells, Row.vals_length] at this
                refine ⟨_, key _ _ ?_ hr, hk⟩
                simp only [loadVar, Sem.run_bind, run_isAgg_some hag, Result.andThen_ok, if_true, run_sizeOf_some hz, this, Sem.run_pure]
                rfl

theorem resF_el {fn : Func} {ret : Value → World → Prop} {env : Env} {w : World} (h : resF (wpM P) P fn ret env w) {a : Act} (hs : Sim n [] env a) :
    ∃ v, (results fn a.tmps).run P w = .ok v w ∧ ret v w := by
  obtain ⟨vs, hr, hk⟩ := resL_el hs h
  refine ⟨_, ?_, hk⟩
  have e : results fn a.tmps = (do let vs ← fn.results.mapM (readRes a.tmps); pure (if h : vs.size = 1 then vs[0] else .tuple vs)) := by
    unfold results
    congr 1
  rw [e, Sem.run_bind, Array.mapM_eq_mapM_toList, Sem.run_map, hr]
  simp only [Result.andThen_ok, Sem.run_pure]
  congr 1
  cases vs with
  | nil => rfl
  | cons v vs => cases vs with
    | nil => rfl
    | cons u us => simp [oneOf]

theorem argSim (fn : Func) (args : List Value) : Sim (max fn.ntmps args.length) [] (argEnv args 0) { tmps := args.toArray ++ Array.replicate (fn.ntmps - args.toArray.size) undef, defers := [] } := by
  refine ⟨by simp; omega, rfl, fun d v hv => ?_⟩
  obtain ⟨_, h⟩ := argEnv_get args 0 d v hv
  have hlt : d < args.length := (List.getElem?_eq_some_iff.1 h).1
  simp only [Array.getElem?_append, List.size_toArray, hlt, if_true]
  simpa using h

theorem funcF_sound {f : FuncId} {fn : Func} {args : List Value} {w : World} {ret : Value → World → Prop} {pan : List PanicEntry → World → Prop} (hf : P.funcs[f]? = some fn)
    (h : funcF (wpM P) P fn args ret pan w) : Calls P f args.toArray w fun
      | .returned v, w' => ret v w'
      | .panicked c, w' => pan c w'
      | .outgrown, _ => False := by
  unfold funcF at h
  cases hb : fn.body with
  | none => rw [hb] at h; exact h.elim
  | some c =>
    rw [hb] at h
    refine calls_of_wp hf hb (wp_mono (codeF_sound c _ _ _ w h (argSim fn args)) fun e a w' hl => ?_)
    cases e with
    | normal => obtain ⟨env, hs, _, hq⟩ := hl; exact ⟨hs.defers, resF_el hq hs⟩
    | ret => obtain ⟨env, hs, _, hq⟩ := hl; exact ⟨hs.defers, resF_el hq hs⟩
    | panic c => obtain ⟨env, hs, hq⟩ := hl; exact ⟨hs.defers, hq⟩
    | outgrown => exact hl
    | exit i => obtain ⟨env, hs, _, hq⟩ := hl; exact hq.elim
    | goto i => obtain ⟨env, hs, _, hq⟩ := hl; exact hq.elim
end
end Hl
end Go.Proofs.Ytdmfnlcbfmahhaa
