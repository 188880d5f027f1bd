/- A statement's operations, in the order of the text, or in whatever order its edges allow. -/
import Derived.Test.YtdmfnlcbfmahhaaHlSound
namespace Go.Proofs.Ytdmfnlcbfmahhaa
namespace Hl
open Go

/-! ## Sets of numbers as bits -/

def has (s i : Nat) : Bool := Nat.testBit s i
def ins (s i : Nat) : Nat := s ||| 2 ^ i
def sub (a b : Nat) : Bool := Nat.beq (a &&& b) a

theorem has_ins (s i j : Nat) : has (ins s i) j = (has s j || decide (i = j)) := by
  simp [has, ins, Nat.testBit_or, Nat.testBit_two_pow]

theorem sub_has {a b j : Nat} (h : sub a b = true) (hj : has a j = true) : has b j = true := by
  have e := Nat.eq_of_beq_eq_true h
  have : (a &&& b).testBit j = true := by rw [e]; exact hj
  rw [Nat.testBit_and] at this
  simp at this
  exact this.2

/-! ## The evaluator -/

def dstsOf (ops : List Oper) : List Nat := ops.filterMap (·.dst)

def forget (env : Env) : List Nat → Env
  | [] => env
  | d :: ds => (forget env ds).upd d none


section
variable {T : Type} (M : Prims T) (P : Program) (n : Nat)

def okDst (d : Option Nat) : Bool := match d with | some d => Nat.blt d n | none => true

def guardF (ops : Array Oper) (g : Option (Nat × Bool)) (env : Env) (run skip : Env → T) : T :=
  match g with
  | none => run env
  | some (j, want) => match (ops[j]?).bind (·.dst) with
    | none => M.fail
    | some d => match env d with
      | some (.bool b) => bif b then (bif want then run else skip) (env.upd d (some (.bool true))) else (bif want then skip else run) (env.upd d (some (.bool false)))
      | some (.tuple _) => skip env
      | _ => M.fail

def opsF (ops : Array Oper) (QP : List PanicEntry → Env → T) : List Oper → (Env → T) → Env → T
  | [], Q, env => Q env
  | o :: rest, Q, env => bif okDst n o.dst then
      guardF M ops o.guard env
        (fun env => opF M P o.op o.type env (fun v => opsF ops QP rest Q (env.put o.dst v)) (fun c => QP c env))
        (fun env => opsF ops QP rest Q (env.put o.dst undef))
    else M.fail

/-- A number that is reckoned out before it is used. -/
def force {α : Type} (k : Nat) (f : Nat → α) : α := match k with | 0 => f 0 | k + 1 => f (Nat.succ k)

theorem force_eq {α : Type} (k : Nat) (f : Nat → α) : force k f = f k := by cases k <;> rfl

/-- Row i of a table of bits, 64 a row. -/
def row (b i : Nat) : Nat := (b >>> (64 * i)) &&& 18446744073709551615

def befStep (ops : Array Oper) (bef : Nat) (i : Nat) : Nat :=
  match ops[i]? with
  | none => 0
  | some o => o.after.toList.foldl (fun s e => bif Region.binds .any e then s ||| 2 ^ e.on ||| row bef e.on else s) 0

def befOf (ops : Array Oper) : Nat → Nat
  | 0 => 0
  | k + 1 => force (befOf ops k) fun b => b ||| (befStep ops b k <<< (64 * k))

def tmpsOf : List Operand → List Nat
  | [] => []
  | .tmp t :: xs => t :: tmpsOf xs
  | _ :: xs => tmpsOf xs

def guardSlots (ops : Array Oper) (g : Option (Nat × Bool)) : List Nat :=
  match g with | some (j, _) => (match (ops[j]?).bind (·.dst) with | some d => [d] | none => []) | none => []

def guardYes (ops : Array Oper) (a : Act) (g : Option (Nat × Bool)) : Bool :=
  match g with | none => true | some (j, want) => yielded ops a.tmps j == some want

/-- The slots that an operation reads, its guard's too. -/
def readsOf (ops : Array Oper) (o : Oper) : List Nat := tmpsOf o.op.operands.toList ++ guardSlots ops o.guard

def allLt (k : Nat) (p : Nat → Bool) : Bool := match k with | 0 => true | k + 1 => p k && allLt k p

def quietMask (P : Program) (ops : Array Oper) : Nat → Nat
  | 0 => 0
  | k + 1 => match ops[k]? with
    | some o => bif quietOp P o.op then quietMask P ops k ||| 2 ^ k else quietMask P ops k
    | none => quietMask P ops k

def regionOk (P : Program) (ops : Array Oper) (bef qm : Nat) : Bool :=
  (P.follows .mixedOrders || !(Region.departs ops)) && allLt ops.size fun i => match ops[i]? with
    | none => false
    | some o =>
      (o.after.toList.all fun e => !(Region.binds .any e) || Nat.blt e.on i) && (Nat.beq (row bef i) (befStep ops bef i) && (has qm i == quietOp P o.op)) &&
      (match o.guard with | some (j, _) => has (row bef i) j | none => true) &&
      allLt ops.size fun j => match ops[j]? with
        | none => false
        | some q => match q.dst with
          | none => true
          | some d => (Nat.beq i j || !(match o.dst with | some d' => Nat.beq d d' | none => false)) &&
            ((readsOf ops o).all fun t => !(Nat.beq t d) || (!(Nat.beq i j) && (has (row bef i) j || has (row bef j) i)))

def ready (bef qm done : Nat) (quiet : Bool) (i : Nat) : Bool := !(has done i) && sub (row bef i) done && (has qm i == quiet)

def firstR (p : Nat → Bool) : Nat → Nat → Option Nat
  | 0, _ => none
  | f + 1, i => bif p i then some i else firstR p f (i + 1)

def readyList (bef qm done : Nat) (quiet : Bool) : Nat → List Nat
  | 0 => []
  | k + 1 => bif ready bef qm done quiet k then readyList bef qm done quiet k ++ [k] else readyList bef qm done quiet k

def bothL : List T → T
  | [] => M.fail
  | [x] => x
  | x :: xs => M.both x (bothL xs)

abbrev Fact := Nat × List (Addr × List Value)

def factsOf : List Fact → List (Addr × List Value)
  | [] => []
  | f :: fs => f.2 ++ factsOf fs

def addFact (i : Nat) (fs : List (Addr × List Value)) (l : List Fact) : List Fact := match fs with | [] => l | _ => (i, fs) :: l

def keepF (l : List (Addr × List Value)) (x : T) : T := match l with | [] => x | _ => M.keep l x

/-- Every operation that leaves the memory as it is as early as it may be done; of the others, each that may come next. -/
def canonF (ops : Array Oper) (bef qm : Nat) (QP : List PanicEntry → T) (Q : Env → T) : Nat → Nat → List Fact → Env → T
  | 0, _, _, _ => M.fail
  | fuel + 1, done, facts, env =>
    match firstR (ready bef qm done true) ops.size 0 with
    | some i => (match ops[i]? with
      | none => M.fail
      | some o => bif okDst n o.dst then force (ins done i) fun done' =>
          guardF M ops o.guard env
            (fun env => opQ M P o.op o.type env fun v fs => canonF ops bef qm QP Q fuel done' (addFact i fs facts) (env.put o.dst v))
            (fun env => canonF ops bef qm QP Q fuel done' facts (env.put o.dst undef))
        else M.fail)
    | none => match readyList bef qm done false ops.size with
      | [] => bif allLt ops.size (has done) then Q env else M.fail
      | l => bothL M (l.map fun i => match ops[i]? with
        | none => M.fail
        | some o => bif okDst n o.dst then force (ins done i) fun done' =>
            (let facts' := facts.filter fun f => !(has (row bef i) f.1)
            guardF M ops o.guard env
              (fun env => opF M P o.op o.type env (fun v => keepF M (factsOf facts') (canonF ops bef qm QP Q fuel done' facts' (env.put o.dst v))) QP)
              (fun env => canonF ops bef qm QP Q fuel done' facts' (env.put o.dst undef)))
          else M.fail)

def regionF (ops : Array Oper) (draw : Bool) (QP : List PanicEntry → Env → T) (Q : Env → T) (env : Env) : T :=
  bif draw then
    (force (befOf ops ops.size) fun bef => force (quietMask P ops ops.size) fun qm =>
    bif regionOk P ops bef qm then M.draw (canonF M P n ops bef qm (fun c => QP c (forget env (dstsOf ops.toList))) Q (ops.size + 1) 0 [] env) else M.fail)
  else opsF M P n ops QP ops.toList Q env
end

/-! ## Soundness: the order of the text -/

structure Sim (n : Nat) (D : List Deferred) (env : Env) (a : Act) : Prop where
  size : a.tmps.size = n
  defers : a.defers = D
  slot : ∀ d v, env d = some v → a.tmps[d]? = some v

section
variable {P : Program} {n : Nat} {D : List Deferred}

theorem Sim.eval {env : Env} {a : Act} (h : Sim n D env a) {x : Operand} {v : Value} (hx : evalO env x = some v) : a.eval x = v := by
  cases x with
  | tmp t => have := h.slot t v hx; simp [Act.eval, Array.getD_eq_getD_getElem?, this]
  | const c => simpa [evalO, Act.eval] using hx
  | global g => simpa [evalO, Act.eval] using hx
  | func f => simpa [evalO, Act.eval] using hx

theorem upd_same (env : Env) (d : Nat) (v : Option Value) : env.upd d v d = v := by simp [Env.upd]
theorem upd_other (env : Env) {d i : Nat} (v : Option Value) (h : i ≠ d) : env.upd d v i = env i := by
  have : Nat.beq i d = false := by cases hb : Nat.beq i d with
    | true => exact absurd (Nat.eq_of_beq_eq_true hb) h
    | false => rfl
  simp [Env.upd, this]

theorem put_tmps_other {a : Act} {dst : Option Nat} {v : Value} {d : Nat} (h : dst ≠ some d) : (a.put dst v).tmps[d]? = a.tmps[d]? := by
  cases dst with
  | none => rfl
  | some e =>
    have : e ≠ d := fun x => h (by rw [x])
    simp [Act.put, this]

theorem put_tmps_same {a : Act} {v : Value} {d : Nat} (h : d < a.tmps.size) : (a.put (some d) v).tmps[d]? = some v := by
  simp [Act.put, h]

theorem put_size {a : Act} {dst : Option Nat} {v : Value} : (a.put dst v).tmps.size = a.tmps.size := by
  cases dst <;> simp [Act.put]

theorem put_defers {a : Act} {dst : Option Nat} {v : Value} : (a.put dst v).defers = a.defers := by
  cases dst <;> rfl

theorem Sim.put {env : Env} {a : Act} (h : Sim n D env a) {dst : Option Nat} (hd : okDst n dst = true) (v : Value) : Sim n D (env.put dst v) (a.put dst v) := by
  refine ⟨by rw [put_size]; exact h.size, by rw [put_defers]; exact h.defers, fun d u hu => ?_⟩
  cases dst with
  | none => exact h.slot d u hu
  | some e =>
    by_cases he : d = e
    · subst he
      have : d < a.tmps.size := by rw [h.size]; have := hd; simp [okDst, Nat.blt] at this; omega
      rw [put_tmps_same this]
      simpa [Env.put, upd_same] using hu
    · rw [put_tmps_other (by simpa using fun x => he x.symm)]
      exact h.slot d u (by simpa [Env.put, upd_other _ _ he] using hu)

/-- Slots that a piece of code does not write stand as they were. -/
def Keeps (ds : List Nat) (a a' : Act) : Prop := ∀ d, d ∉ ds → a'.tmps[d]? = a.tmps[d]?

theorem Keeps.refl (ds : List Nat) (a : Act) : Keeps ds a a := fun _ _ => rfl
theorem Keeps.trans {ds : List Nat} {a b c : Act} (h : Keeps ds a b) (h' : Keeps ds b c) : Keeps ds a c := fun d hd => (h' d hd).trans (h d hd)
theorem Keeps.mono {ds ds' : List Nat} {a b : Act} (h : Keeps ds a b) (hs : ∀ d, d ∈ ds → d ∈ ds') : Keeps ds' a b := fun d hd => h d fun x => hd (hs d x)
theorem Keeps.put {ds : List Nat} {a : Act} {dst : Option Nat} {v : Value} (h : ∀ d, dst = some d → d ∈ ds) : Keeps ds a (a.put dst v) :=
  fun d hd => put_tmps_other fun e => hd (h d e)

theorem guardF_sound {ops : Array Oper} {g : Option (Nat × Bool)} {env : Env} {run skip : Env → World → Prop} {w : World} (h : guardF (wpM P) ops g env run skip w) :
    (∃ env', (∀ d, env' d = env d) ∧ run env' w ∧ (∀ a : Act, (∀ d v, d ∈ guardSlots ops g → env d = some v → a.tmps[d]? = some v) → guardYes ops a g = true)) ∨
    (∃ env', (∀ d, env' d = env d) ∧ skip env' w ∧ (∀ a : Act, (∀ d v, d ∈ guardSlots ops g → env d = some v → a.tmps[d]? = some v) → guardYes ops a g = false)) := by
  cases g with
  | none => exact .inl ⟨env, fun _ => rfl, h, fun _ _ => rfl⟩
  | some jw =>
    obtain ⟨j, want⟩ := jw
    cases hj : (ops[j]?).bind (·.dst) with
    | none => simp only [guardF, hj] at h; exact h.elim
    | some d =>
      simp only [guardF, hj] at h
      cases hd : env d with
      | none => rw [hd] at h; exact h.elim
      | some u =>
        rw [hd] at h
        have hsame : ∀ b, u = .bool b → ∀ i, (env.upd d (some (.bool b))) i = env i := by
          intro b hb i
          by_cases hi : i = d
          · subst hi; rw [upd_same, hd, hb]
          · exact upd_other _ _ hi
        cases u with
        | bool b =>
          have hy : ∀ a : Act, (∀ e v, e ∈ [d] → env e = some v → a.tmps[e]? = some v) → yielded ops a.tmps j = some b := by
            intro a ha
            have := ha d _ (List.mem_singleton.2 rfl) hd
            simp [yielded, hj, this]
          cases b with
          | true => cases want with
            | true => exact .inl ⟨_, hsame _ rfl, h, fun a ha => by simp only [guardSlots, hj] at ha; simp [guardYes, hy a ha]⟩
            | false => exact .inr ⟨_, hsame _ rfl, h, fun a ha => by simp only [guardSlots, hj] at ha; simp [guardYes, hy a ha]⟩
          | false => cases want with
            | true => exact .inr ⟨_, hsame _ rfl, h, fun a ha => by simp only [guardSlots, hj] at ha; simp [guardYes, hy a ha]⟩
            | false => exact .inl ⟨_, hsame _ rfl, h, fun a ha => by simp only [guardSlots, hj] at ha; simp [guardYes, hy a ha]⟩
        | tuple vs =>
          refine .inr ⟨env, fun _ => rfl, h, fun a ha => ?_⟩
          simp only [guardSlots, hj] at ha
          have := ha d _ (List.mem_singleton.2 rfl) hd
          simp [guardYes, yielded, hj, this]
        | _ => exact h.elim

theorem wanted_eq (o : Oper) (ops : Array Oper) (a : Act) : Region.wanted o (yielded ops a.tmps) = guardYes ops a o.guard := by
  unfold Region.wanted guardYes; cases o.guard <;> rfl

theorem Sim.congr {env env' : Env} {a : Act} (h : Sim n D env a) (he : ∀ d, env' d = env d) : Sim n D env' a :=
  ⟨h.size, h.defers, fun d v hv => h.slot d v (by rw [← he]; exact hv)⟩

theorem forget_get (env : Env) : ∀ (ds : List Nat) (d : Nat), forget env ds d = if d ∈ ds then none else env d
  | [], d => by simp [forget]
  | e :: ds, d => by
    simp only [forget]
    by_cases he : d = e
    · subst he; rw [upd_same]; simp
    · rw [upd_other _ _ he, forget_get env ds d]; simp [he]

theorem opsF_sound {ops : Array Oper} {QP : List PanicEntry → Env → World → Prop} {Q : Env → World → Prop} {Qx : Exit → Act → World → Prop} {ds : List Nat} {a₀ : Act} :
    ∀ (l : List Oper) (env : Env) (a : Act) (w : World), opsF (wpM P) P n ops QP l Q env w → Sim n D env a → Keeps ds a₀ a → (∀ d, d ∈ dstsOf l → d ∈ ds) →
    (∀ env' a' w', Sim n D env' a' → Keeps ds a₀ a' → Q env' w' → Qx .normal a' w') → (∀ c env' a' w', Sim n D env' a' → QP c env' w' → Qx (.panic c) a' w') →
    wpList P ops Qx l a w := by
  intro l
  induction l with
  | nil => intro env a w h hs hk _ hQ _; exact hQ env a w hs hk h
  | cons o rest ih =>
    intro env a w h hs hk hds hQ hQP
    simp only [opsF] at h
    cases hd : okDst n o.dst with
    | false => rw [hd] at h; exact h.elim
    | true =>
    simp only [hd, cond_true] at h
    have hput : ∀ v, Keeps ds a₀ (a.put o.dst v) := fun v => hk.trans (Keeps.put fun d e => hds d (by simp [dstsOf, e]))
    have hrest : ∀ d, d ∈ dstsOf rest → d ∈ ds := fun d hx => hds d (by unfold dstsOf at *; rw [List.filterMap_cons]; cases o.dst <;> simp [hx])
    unfold wpList
    rw [wanted_eq]
    rcases guardF_sound h with ⟨env', he, hr, hw⟩ | ⟨env', he, hr, hw⟩
    · rw [hw a (fun d v _ hv => hs.slot d v hv), if_pos rfl]
      left
      have hs' := hs.congr he
      exact opF_value (env := env') (fun x _ v hv => hs'.eval hv) hr
        (fun v w' hq => ih _ _ w' hq (hs'.put hd v) (hput v) hrest hQ hQP) (fun c w' hq => hQP c env' a w' hs' hq)
    · rw [hw a (fun d v _ hv => hs.slot d v hv), if_neg (by simp)]
      have hs' := hs.congr he
      exact ih _ _ w hr (hs'.put hd undef) (hput undef) hrest hQ hQP

/-! ## Soundness: any order that the edges allow -/

inductive Lin (ops : Array Oper) : Nat → List Nat → Prop where
  | nil {S : Nat} (h : ∀ i, i < ops.size → has S i = true) : Lin ops S []
  | cons {S i : Nat} {l : List Nat} (h1 : i < ops.size) (h2 : has S i = false)
      (h3 : ∀ o, ops[i]? = some o → ∀ e, e ∈ o.after.toList → Region.binds .any e = true → has S e.on = true) (h4 : Lin ops (ins S i) l) : Lin ops S (i :: l)

theorem allLt_el {k : Nat} {p : Nat → Bool} (h : allLt k p = true) : ∀ i, i < k → p i = true := by
  induction k with
  | zero => intro i hi; omega
  | succ k ih =>
    intro i hi
    simp only [allLt, Bool.and_eq_true] at h
    by_cases he : i = k
    · rw [he]; exact h.1
    · exact ih h.2 i (by omega)

theorem allLt_in {k : Nat} {p : Nat → Bool} (h : ∀ i, i < k → p i = true) : allLt k p = true := by
  induction k with
  | zero => rfl
  | succ k ih => simp [allLt, h k (by omega), ih fun i hi => h i (by omega)]

theorem least_out {S : Nat} : ∀ k, (∃ i, i < k ∧ has S i = false) → ∃ i, i < k ∧ has S i = false ∧ ∀ j, j < i → has S j = true := by
  intro k
  induction k with
  | zero => rintro ⟨i, hi, _⟩; omega
  | succ k ih =>
    rintro ⟨i, hi, hf⟩
    by_cases hk : ∃ i, i < k ∧ has S i = false
    · obtain ⟨j, h1, h2, h3⟩ := ih hk
      exact ⟨j, by omega, h2, h3⟩
    · have : i = k := by
        rcases Nat.lt_or_ge i k with h | h
        · exact absurd ⟨i, h, hf⟩ hk
        · omega
      subst this
      refine ⟨i, by omega, hf, fun j hj => ?_⟩
      cases hb : has S j with
      | true => rfl
      | false => exact absurd ⟨j, hj, hb⟩ hk

theorem linearise_lin {ops : Array Oper} (hback : ∀ (i : Nat) (o : Oper), ops[i]? = some o → ∀ e : Edge, e ∈ o.after.toList → Region.binds .any e = true → e.on < i) :
    ∀ (fuel t : Nat) (listed : Array Bool) (acc : List Nat) (S : Nat), listed.size = ops.size → (∀ i, i < ops.size → listed.getD i true = has S i) →
      ((List.range ops.size).filter fun i => !has S i).length ≤ fuel → ∃ l, Region.linearise.go .any ops fuel t listed acc = acc.reverse ++ l ∧ Lin ops S l := by
  intro fuel
  induction fuel with
  | zero =>
    intro t listed acc S hsz hl hc
    refine ⟨[], by simp [Region.linearise.go], .nil fun i hi => ?_⟩
    cases hb : has S i with
    | true => rfl
    | false =>
      exfalso
      have : i ∈ (List.range ops.size).filter fun i => !has S i := by simp [hi, hb]
      have h0 : ((List.range ops.size).filter fun i => !has S i) = [] := List.eq_nil_of_length_eq_zero (by omega)
      rw [h0] at this; cases this
  | succ fuel ih =>
    intro t listed acc S hsz hl hc
    unfold Region.linearise.go
    generalize hrs : ((List.range ops.size).filter fun i => !listed.getD i true && ((ops[i]?).map (·.after.all fun e => !Region.binds .any e || listed.getD e.on false)).getD false) = rs
    cases hr : rs[t % rs.length]? with
    | none =>
      refine ⟨[], by simp [hr], .nil fun i hi => ?_⟩
      cases hb : has S i with
      | true => rfl
      | false =>
        exfalso
        obtain ⟨j, hj, hjf, hlt⟩ := least_out ops.size ⟨i, hi, hb⟩
        have hmem : j ∈ rs := by
          rw [← hrs]
          have ho : ops[j]? = some ops[j] := Array.getElem?_eq_getElem hj
          simp only [List.mem_filter, List.mem_range, hj, true_and, Bool.and_eq_true, Bool.not_eq_true', hl j hj, hjf, ho, Option.map_some, Option.getD_some, Array.all_eq_true']
          intro e he
          cases hbe : Region.binds .any e with
          | false => rfl
          | true =>
          have h1 := hback j _ ho e (by simpa using he) hbe
          have h2 := hl e.on (by omega)
          have h3 : listed.getD e.on false = listed.getD e.on true := by simp [Array.getD, show e.on < listed.size by omega]
          rw [h3, h2, hlt _ h1]; simp
        have hpos : 0 < rs.length := List.length_pos_of_mem hmem
        have := List.getElem?_eq_none_iff.1 hr
        have := Nat.mod_lt t hpos
        omega
    | some i =>
      have hmem : i ∈ rs := List.mem_of_getElem? hr
      rw [← hrs] at hmem
      simp only [List.mem_filter, List.mem_range, Bool.and_eq_true, Bool.not_eq_true'] at hmem
      obtain ⟨hi, hnl, hall⟩ := hmem
      have hns : has S i = false := by rw [← hl i hi]; exact hnl
      have ho : ops[i]? = some ops[i] := Array.getElem?_eq_getElem hi
      obtain ⟨l, he, hlin⟩ := ih (t / rs.length) (listed.setIfInBounds i true) (i :: acc) (ins S i) (by simp [hsz])
        (fun j hj => by
          rw [has_ins]
          by_cases hij : i = j
          · subst hij; simp [Array.getD, show i < listed.size by omega]
          · have := hl j hj
            simp only [Array.getD_eq_getD_getElem?] at this ⊢
            rw [Array.getElem?_setIfInBounds_ne (by omega), this]
            simp [hij])
        (by
          have h1 : ((List.range ops.size).filter fun j => !has (ins S i) j).length < ((List.range ops.size).filter fun j => !has S j).length := by
            have hsub : ((List.range ops.size).filter fun j => !has (ins S i) j) = (((List.range ops.size).filter fun j => !has S j).filter fun j => !decide (i = j)) := by
              rw [List.filter_filter]
              apply List.filter_congr
              intro j _
              rw [has_ins]; cases has S j <;> simp
            rw [hsub]
            apply List.length_filter_lt_length_iff_exists.2
            exact ⟨i, by simp [hi, hns], by simp⟩
          omega)
      refine ⟨i :: l, by simp only [hr]; rw [he]; simp, .cons hi hns ?_ hlin⟩
      intro o hoo e he' hb
      rw [ho] at hoo
      obtain rfl := Option.some.inj hoo
      rw [ho] at hall
      simp only [Option.map_some, Option.getD_some, Array.all_eq_true'] at hall
      have h1 := hall e (by simpa using he')
      rw [hb] at h1
      have hlt := hback i _ ho e he' hb
      have h3 : listed.getD e.on false = listed.getD e.on true := by simp [Array.getD, show e.on < listed.size by omega]
      rw [h3, hl e.on (by omega)] at h1
      simpa using h1

theorem schedule_lin {ops : Array Oper} (hback : ∀ (i : Nat) (o : Oper), ops[i]? = some o → ∀ e : Edge, e ∈ o.after.toList → Region.binds .any e = true → e.on < i) {mixed : Bool} (hm : (mixed || !(Region.departs ops)) = true) (t : Nat) :
    Lin ops 0 (Region.schedule mixed ops t) := by
  unfold Region.schedule
  rw [if_pos hm]
  obtain ⟨l, he, hl⟩ := linearise_lin hback ops.size t (Array.replicate ops.size false) [] 0 (by simp)
    (fun i hi => by simp [Array.getD, hi, has]) (Nat.le_trans (List.length_filter_le _ _) (by simp))
  unfold Region.linearise
  rw [he]; simpa using hl

/-- What a region's text is known to keep. -/
structure Fit (P : Program) (ops : Array Oper) (bef qm : Nat) : Prop where
  back : ∀ (i : Nat) (o : Oper), ops[i]? = some o → ∀ e : Edge, e ∈ o.after.toList → Region.binds .any e = true → e.on < i
  mixed : (P.follows .mixedOrders || !(Region.departs ops)) = true
  befs : ∀ i, i < ops.size → row bef i = befStep ops bef i
  qm : ∀ (i : Nat) (o : Oper), ops[i]? = some o → has qm i = quietOp P o.op
  guard : ∀ (i : Nat) (o : Oper) (j : Nat) (b : Bool), ops[i]? = some o → o.guard = some (j, b) → has (row bef i) j = true
  single : ∀ (i j : Nat) (o q : Oper) (d : Nat), ops[i]? = some o → ops[j]? = some q → o.dst = some d → q.dst = some d → i = j
  reads : ∀ (i j : Nat) (o q : Oper) (d : Nat), ops[i]? = some o → ops[j]? = some q → q.dst = some d → d ∈ readsOf ops o → i ≠ j ∧ (has (row bef i) j = true ∨ has (row bef j) i = true)

theorem fit_of {ops : Array Oper} {bef qm : Nat} (h : regionOk P ops bef qm = true) : Fit P ops bef qm := by
  unfold regionOk at h
  rw [Bool.and_eq_true] at h
  have row' : ∀ (i : Nat) (o : Oper), ops[i]? = some o → i < ops.size ∧ (o.after.toList.all fun e => !(Region.binds .any e) || Nat.blt e.on i) = true ∧ (Nat.beq (row bef i) (befStep ops bef i) = true ∧ (has qm i == quietOp P o.op) = true) ∧
      (match o.guard with | some (j, _) => has (row bef i) j | none => true) = true ∧
      ∀ (j : Nat) (q : Oper) (d : Nat), ops[j]? = some q → q.dst = some d → (Nat.beq i j || !(match o.dst with | some d' => Nat.beq d d' | none => false)) = true ∧
        ((readsOf ops o).all fun t => !(Nat.beq t d) || (!(Nat.beq i j) && (has (row bef i) j || has (row bef j) i))) = true := by
    intro i o ho
    have hi : i < ops.size := (Array.getElem?_eq_some_iff.1 ho).1
    have := allLt_el h.2 i hi
    simp only [ho, Bool.and_eq_true] at this
    obtain ⟨⟨⟨h1, h2⟩, h3⟩, h4⟩ := this
    refine ⟨hi, h1, h2, h3, fun j q d hq hd => ?_⟩
    have hj : j < ops.size := (Array.getElem?_eq_some_iff.1 hq).1
    have := allLt_el h4 j hj
    simp only [hq, hd, Bool.and_eq_true] at this
    exact this
  refine ⟨fun i o ho e he hb => ?_, h.1, fun i hi => ?_, fun i o ho => by simpa using (row' i o ho).2.2.1.2, fun i o j b ho hg => ?_, fun i j o q d ho hq hd hd' => ?_, fun i j o q d ho hq hd hr => ?_⟩
  · have := (row' i o ho).2.1
    rw [List.all_eq_true] at this
    have := this e he
    rw [hb] at this
    simp [Nat.blt] at this; omega
  · exact Nat.eq_of_beq_eq_true (row' i ops[i] (Array.getElem?_eq_getElem hi)).2.2.1.1
  · have := (row' i o ho).2.2.2.1
    rw [hg] at this; exact this
  · have := ((row' i o ho).2.2.2.2 j q d hq hd').1
    rw [hd] at this
    have e : Nat.beq d d = true := Nat.beq_refl d
    simp only [e, Bool.not_true, Bool.or_false] at this
    exact Nat.eq_of_beq_eq_true this
  · have := ((row' i o ho).2.2.2.2 j q d hq hd).2
    rw [List.all_eq_true] at this
    have := this d hr
    simp only [Nat.beq_refl, Bool.not_true, Bool.false_or, Bool.and_eq_true, Bool.not_eq_true', Bool.or_eq_true] at this
    refine ⟨fun e => ?_, this.2⟩
    rw [e, Nat.beq_refl] at this
    cases this.1

theorem befStep_el {ops : Array Oper} {bef : Nat} {i j : Nat} {o : Oper} (ho : ops[i]? = some o) (h : has (befStep ops bef i) j = true) :
    ∃ e : Edge, e ∈ o.after.toList ∧ Region.binds .any e = true ∧ (e.on = j ∨ has (row bef e.on) j = true) := by
  have key : ∀ (l : List Edge) (s : Nat), has (l.foldl (fun s e => bif Region.binds .any e then s ||| 2 ^ e.on ||| row bef e.on else s) s) j = true →
      has s j = true ∨ ∃ e : Edge, e ∈ l ∧ Region.binds .any e = true ∧ (e.on = j ∨ has (row bef e.on) j = true) := by
    intro l
    induction l with
    | nil => intro s h; exact .inl h
    | cons e l ih =>
      intro s h
      simp only [List.foldl_cons] at h
      rcases ih _ h with h' | ⟨e', h1, h2⟩
      · cases hb : Region.binds .any e with
        | false => rw [hb] at h'; exact .inl h'
        | true =>
          rw [hb] at h'
          simp only [cond_true, has, Nat.testBit_or, Bool.or_eq_true, Nat.testBit_two_pow, decide_eq_true_eq] at h'
          rcases h' with (h' | h') | h'
          · exact .inl h'
          · exact .inr ⟨e, List.mem_cons_self, hb, .inl h'⟩
          · exact .inr ⟨e, List.mem_cons_self, hb, .inr h'⟩
      · exact .inr ⟨e', List.mem_cons_of_mem _ h1, h2⟩
  unfold befStep at h
  simp only [ho] at h
  rcases key _ _ h with h' | h'
  · simp [has] at h'
  · exact h'

end
end Hl
end Go.Proofs.Ytdmfnlcbfmahhaa
