/- The evaluator's one order of a statement's operations stands for each order that the model may draw. -/
import Derived.Test.YtdmfnlcbfmahhaaHlRegion
namespace Go.Proofs.Ytdmfnlcbfmahhaa
namespace Hl
open Go

section
variable {P : Program} {n : Nat} {D : List Deferred} {ops : Array Oper} {bef qm : Nat} {env₀ : Env} {a₀ : Act}

def Right (ops : Array Oper) (bef : Nat) (a₀ : Act) (vals : Nat → Value) (i : Nat) (o : Oper) (env : Env) : Prop :=
  ∀ t, t ∈ readsOf ops o → ∀ u, env t = some u →
    (∀ (j : Nat) (q : Oper), ops[j]? = some q → q.dst = some t → has (row bef i) j = true → u = vals j) ∧
    ((∀ (j : Nat) (q : Oper), ops[j]? = some q → q.dst = some t → has (row bef i) j = false) → a₀.tmps[t]? = some u)

def Agrees (ops : Array Oper) (o : Oper) (env : Env) (a : Act) : Prop := ∀ t, t ∈ readsOf ops o → ∀ u, env t = some u → a.tmps[t]? = some u

def Pend (P : Program) (n : Nat) (ops : Array Oper) (bef : Nat) (a₀ : Act) (vals : Nat → Value) (L : List Fact) (i : Nat) (o : Oper) : Prop :=
  okDst n o.dst = true ∧ ∃ env : Env, Right ops bef a₀ vals i o env ∧
    (((∀ a, Agrees ops o env a → guardYes ops a o.guard = true) ∧
        ∃ fs, (fs = [] ∨ (i, fs) ∈ L) ∧ ∀ (K : Value → List (Addr × List Value) → World → Prop) (w : World), Facts fs w → K (vals i) fs w → opQ (wpM P) P o.op o.type env K w) ∨
      ((∀ a, Agrees ops o env a → guardYes ops a o.guard = false) ∧ vals i = undef))

structure Inv (P : Program) (n : Nat) (D : List Deferred) (ops : Array Oper) (bef : Nat) (env₀ : Env) (a₀ : Act) (C S : Nat) (vals : Nat → Value) (L : List Fact) (env : Env) (a : Act) (w : World) : Prop where
  sub : ∀ i, has S i = true → has C i = true
  bd : ∀ i, has C i = true → i < ops.size
  cC : ∀ i j, has C i = true → has (row bef i) j = true → has C j = true
  cS : ∀ i j, has S i = true → has (row bef i) j = true → has S j = true
  envc : ∀ d u, env d = some u → (∃ (i : Nat) (o : Oper), has C i = true ∧ ops[i]? = some o ∧ o.dst = some d ∧ u = vals i) ∨
    ((∀ (i : Nat) (o : Oper), has C i = true → ops[i]? = some o → o.dst ≠ some d) ∧ env₀ d = some u)
  size : a.tmps.size = n
  defers : a.defers = D
  done : ∀ (i : Nat) (o : Oper) (d : Nat), has S i = true → ops[i]? = some o → o.dst = some d → a.tmps[d]? = some (vals i)
  kept : ∀ d, (∀ (i : Nat) (o : Oper), has S i = true → ops[i]? = some o → o.dst ≠ some d) → a.tmps[d]? = a₀.tmps[d]?
  facts : Facts (factsOf L) w
  pend : ∀ (i : Nat) (o : Oper), has C i = true → has S i = false → ops[i]? = some o → Pend P n ops bef a₀ vals L i o
  factIn : ∀ f, f ∈ L → has C f.1 = true

theorem right_of (hf : Fit P ops bef qm) (h0 : Sim n D env₀ a₀) {C S : Nat} {vals : Nat → Value} {L : List Fact} {env : Env} {a : Act} {w : World} (h : Inv P n D ops bef env₀ a₀ C S vals L env a w)
    {i : Nat} {o : Oper} (ho : ops[i]? = some o) (hi : has C i = false) (hb : ∀ j, has (row bef i) j = true → has C j = true) {env' : Env} (he : ∀ d, env' d = env d) : Right ops bef a₀ vals i o env' := by
  intro t ht u hu
  rw [he] at hu
  rcases h.envc t u hu with ⟨k, q, hk, hq, hd, hv⟩ | ⟨hno, hu0⟩
  · refine ⟨fun j r hr hrd _ => ?_, fun hno => ?_⟩
    · obtain rfl := hf.single k j q r t hq hr hd hrd; exact hv
    · obtain ⟨hne, h1 | h1⟩ := hf.reads i k o q t ho hq hd ht
      · rw [hno k q hq hd] at h1; cases h1
      · rw [h.cC k i hk h1] at hi; cases hi
  · exact ⟨fun j r hr hrd hj => absurd hrd (hno j r (hb j hj) hr), fun _ => h0.slot t u hu0⟩

theorem agrees_of (hf : Fit P ops bef qm) {C S : Nat} {vals : Nat → Value} {L : List Fact} {env : Env} {a : Act} {w : World} (h : Inv P n D ops bef env₀ a₀ C S vals L env a w)
    {i : Nat} {o : Oper} (ho : ops[i]? = some o) (hi : has S i = false) (hb : ∀ j, has (row bef i) j = true → has S j = true) {env' : Env} (hr : Right ops bef a₀ vals i o env') : Agrees ops o env' a := by
  intro t ht u hu
  obtain ⟨h1, h2⟩ := hr t ht u hu
  by_cases hw : ∃ (j : Nat) (q : Oper), ops[j]? = some q ∧ q.dst = some t ∧ has (row bef i) j = true
  · obtain ⟨j, q, hq, hd, hj⟩ := hw
    rw [h.done j q t (hb j hj) hq hd, h1 j q hq hd hj]
  · have hno : ∀ (j : Nat) (q : Oper), ops[j]? = some q → q.dst = some t → has (row bef i) j = false := by
      intro j q hq hd
      cases hx : has (row bef i) j with
      | false => rfl
      | true => exact absurd ⟨j, q, hq, hd, hx⟩ hw
    rw [h.kept t fun j q hj hq hd => ?_]
    · exact h2 hno
    · obtain ⟨_, h3 | h3⟩ := hf.reads i j o q t ho hq hd ht
      · rw [hno j q hq hd] at h3; cases h3
      · rw [h.cS j i hj h3] at hi; cases hi

theorem mem_tmpsOf {t : Nat} : ∀ {l : List Operand}, Operand.tmp t ∈ l → t ∈ tmpsOf l
  | [], h => by cases h
  | x :: l, h => by
    cases h with
    | head => simp [tmpsOf]
    | tail _ h => cases x <;> simp [tmpsOf, mem_tmpsOf h]

theorem agrees_eval {o : Oper} {env : Env} {a : Act} (h : Agrees ops o env a) {x : Operand} (hx : x ∈ o.op.operands.toList) {v : Value} (hv : evalO env x = some v) : a.eval x = v := by
  cases x with
  | tmp t =>
    have := h t (by unfold readsOf; exact List.mem_append_left _ (mem_tmpsOf hx)) v hv
    simp [Act.eval, Array.getD_eq_getD_getElem?, this]
  | const c => simpa [evalO, Act.eval] using hv
  | global g => simpa [evalO, Act.eval] using hv
  | func f => simpa [evalO, Act.eval] using hv

theorem agrees_guard {o : Oper} {env : Env} {a : Act} (h : Agrees ops o env a) : ∀ d v, d ∈ guardSlots ops o.guard → env d = some v → a.tmps[d]? = some v :=
  fun d v hd hv => h d (by unfold readsOf; exact List.mem_append_right _ hd) v hv

theorem mem_readyList {done : Nat} {quiet : Bool} {i : Nat} : ∀ {k : Nat}, i ∈ readyList bef qm done quiet k ↔ i < k ∧ ready bef qm done quiet i = true := by
  intro k
  induction k with
  | zero => simp [readyList]
  | succ k ih =>
    simp only [readyList]
    cases hr : ready bef qm done quiet k with
    | true =>
      simp only [cond_true, List.mem_append, ih, List.mem_singleton]
      constructor
      · rintro (⟨h1, h2⟩ | rfl)
        · exact ⟨by omega, h2⟩
        · exact ⟨by omega, hr⟩
      · rintro ⟨h1, h2⟩
        by_cases he : i = k
        · exact .inr he
        · exact .inl ⟨by omega, h2⟩
    | false =>
      simp only [cond_false, ih]
      constructor
      · rintro ⟨h1, h2⟩; exact ⟨by omega, h2⟩
      · rintro ⟨h1, h2⟩
        refine ⟨?_, h2⟩
        by_cases he : i = k
        · rw [he, hr] at h2; cases h2
        · omega

theorem firstR_some {p : Nat → Bool} : ∀ {f i j : Nat}, firstR p f i = some j → p j = true ∧ i ≤ j ∧ j < i + f := by
  intro f
  induction f with
  | zero => intro i j h; cases h
  | succ f ih =>
    intro i j h
    simp only [firstR] at h
    cases hp : p i with
    | true => rw [hp] at h; simp at h; subst h; exact ⟨hp, Nat.le_refl _, by omega⟩
    | false => rw [hp] at h; obtain ⟨h1, h2, h3⟩ := ih h; exact ⟨h1, by omega, by omega⟩

theorem firstR_none {p : Nat → Bool} : ∀ {f i : Nat}, firstR p f i = none → ∀ j, i ≤ j → j < i + f → p j = false := by
  intro f
  induction f with
  | zero => intro i _ j h1 h2; omega
  | succ f ih =>
    intro i h j h1 h2
    simp only [firstR] at h
    cases hp : p i with
    | true => rw [hp] at h; cases h
    | false =>
      rw [hp] at h
      by_cases he : j = i
      · rw [he]; exact hp
      · exact ih h j (by omega) (by omega)

theorem ready_el (hf : Fit P ops bef qm) {done : Nat} {quiet : Bool} {i : Nat} (hi : i < ops.size) (h : ready bef qm done quiet i = true) :
    has done i = false ∧ (∀ j, has (row bef i) j = true → has done j = true) ∧ ∃ o, ops[i]? = some o ∧ quietOp P o.op = quiet := by
  unfold ready at h
  simp only [Bool.and_eq_true, Bool.not_eq_true', beq_iff_eq] at h
  obtain ⟨⟨h1, h2⟩, h3⟩ := h
  exact ⟨h1, fun j hj => sub_has h2 hj, ops[i], Array.getElem?_eq_getElem hi, by rw [← hf.qm i _ (Array.getElem?_eq_getElem hi)]; exact h3⟩

theorem ready_in (hf : Fit P ops bef qm) {done : Nat} {i : Nat} {o : Oper} (ho : ops[i]? = some o) (h1 : has done i = false) (h2 : ∀ j, has (row bef i) j = true → has done j = true) : ready bef qm done (quietOp P o.op) i = true := by
  unfold ready
  have hs : sub (row bef i) done = true := by
    unfold sub
    rw [Nat.beq_eq]
    apply Nat.eq_of_testBit_eq
    intro j
    rw [Nat.testBit_and]
    cases hb : (row bef i).testBit j with
    | false => rfl
    | true => have := h2 j hb; unfold has at this; rw [this]; rfl
  rw [hf.qm i o ho]
  simp [h1, hs]

/-- A value is laid at an operation that was not done. -/
def laid (vals : Nat → Value) (i : Nat) (v : Value) : Nat → Value := fun j => if j = i then v else vals j

theorem laid_same (vals : Nat → Value) (i : Nat) (v : Value) : laid vals i v i = v := by simp [laid]
theorem laid_other (vals : Nat → Value) {i j : Nat} (v : Value) (h : j ≠ i) : laid vals i v j = vals j := by simp [laid, h]

theorem put_get (env : Env) (dst : Option Nat) (v : Value) (d : Nat) : env.put dst v d = if dst = some d then some v else env d := by
  cases dst with
  | none => simp [Env.put]
  | some e =>
    by_cases h : e = d
    · subst h; simp [Env.put, upd_same]
    · simp [Env.put, upd_other _ _ (Ne.symm h), h]

theorem pend_mono {vals vals' : Nat → Value} {L L' : List Fact} {i : Nat} {o : Oper} (h : Pend P n ops bef a₀ vals L i o)
    (hv : vals' i = vals i) (hb : ∀ j, has (row bef i) j = true → vals' j = vals j) (hL : ∀ fs, (i, fs) ∈ L → (i, fs) ∈ L') : Pend P n ops bef a₀ vals' L' i o := by
  obtain ⟨h1, env, hr, hx⟩ := h
  refine ⟨h1, env, fun t ht u hu => ?_, ?_⟩
  · obtain ⟨r1, r2⟩ := hr t ht u hu
    exact ⟨fun j q hq hd hj => by rw [hb j hj]; exact r1 j q hq hd hj, r2⟩
  · rcases hx with ⟨hy, fs, hfs, hk⟩ | ⟨hno, hu⟩
    · refine .inl ⟨hy, fs, hfs.imp id (hL fs), fun K w hf hK => hk K w hf ?_⟩
      rw [← hv]; exact hK
    · exact .inr ⟨hno, by rw [hv]; exact hu⟩

theorem envc_put {C S : Nat} {vals : Nat → Value} {L : List Fact} {env env' : Env} {a : Act} {w : World} (h : Inv P n D ops bef env₀ a₀ C S vals L env a w)
    {i : Nat} {o : Oper} (ho : ops[i]? = some o) (hi : has C i = false) (he : ∀ d, env' d = env d) (v : Value) :
    ∀ d u, env'.put o.dst v d = some u → (∃ (k : Nat) (q : Oper), has (ins C i) k = true ∧ ops[k]? = some q ∧ q.dst = some d ∧ u = laid vals i v k) ∨
      ((∀ (k : Nat) (q : Oper), has (ins C i) k = true → ops[k]? = some q → q.dst ≠ some d) ∧ env₀ d = some u) := by
  intro d u hu
  rw [put_get] at hu
  by_cases hd : o.dst = some d
  · rw [if_pos hd] at hu
    exact .inl ⟨i, o, by simp [has_ins], ho, hd, by rw [laid_same]; exact (Option.some.inj hu).symm⟩
  · rw [if_neg hd, he] at hu
    rcases h.envc d u hu with ⟨k, q, hk, hq, hqd, hv⟩ | ⟨hno, h0⟩
    · refine .inl ⟨k, q, by simp [has_ins, hk], hq, hqd, ?_⟩
      rw [laid_other _ _ (fun e => by rw [e, hi] at hk; cases hk)]; exact hv
    · refine .inr ⟨fun k q hk hq => ?_, h0⟩
      rw [has_ins, Bool.or_eq_true, decide_eq_true_eq] at hk
      rcases hk with hk | rfl
      · exact hno k q hk hq
      · rw [ho] at hq; obtain rfl := Option.some.inj hq; exact hd

theorem facts_append {l l' : List (Addr × List Value)} {w : World} (h : Facts l w) (h' : Facts l' w) : Facts (l ++ l') w := fun x hx => (List.mem_append.1 hx).elim (h x) (h' x)

/-- One operation more is taken up; what the real run has done stays as it is. -/
theorem inv_quiet {C S : Nat} {vals : Nat → Value} {L L' : List Fact} {env env' : Env} {a : Act} {w : World} (h : Inv P n D ops bef env₀ a₀ C S vals L env a w)
    {i : Nat} {o : Oper} (ho : ops[i]? = some o) (hi : has C i = false) (hb : ∀ j, has (row bef i) j = true → has C j = true) (he : ∀ d, env' d = env d) (v : Value)
    (hL : ∀ f, f ∈ L → f ∈ L') (hL' : ∀ f, f ∈ L' → f ∈ L ∨ f.1 = i) (hfacts : Facts (factsOf L') w) (hp : Pend P n ops bef a₀ (laid vals i v) L' i o) :
    Inv P n D ops bef env₀ a₀ (ins C i) S (laid vals i v) L' (env'.put o.dst v) a w where
  sub j hj := by simp [has_ins, h.sub j hj]
  bd j hj := by
    rw [has_ins, Bool.or_eq_true, decide_eq_true_eq] at hj
    rcases hj with hj | rfl
    · exact h.bd j hj
    · exact (Array.getElem?_eq_some_iff.1 ho).1
  cC j k hj hk := by
    rw [has_ins, Bool.or_eq_true, decide_eq_true_eq] at hj
    rw [has_ins, Bool.or_eq_true]
    rcases hj with hj | rfl
    · exact .inl (h.cC j k hj hk)
    · exact .inl (hb k hk)
  cS := h.cS
  envc := envc_put h ho hi he v
  size := h.size
  defers := h.defers
  done j q d hj hq hd := by
    rw [laid_other _ _ (fun e => by subst e; rw [h.sub j hj] at hi; cases hi)]
    exact h.done j q d hj hq hd
  kept := h.kept
  facts := hfacts
  pend j q hj hjS hq := by
    rw [has_ins, Bool.or_eq_true, decide_eq_true_eq] at hj
    by_cases hji : i = j
    · subst hji; rw [ho] at hq; obtain rfl := Option.some.inj hq; exact hp
    · have hjC : has C j = true := hj.resolve_right hji
      have hne : ∀ k, has C k = true → laid vals i v k = vals k := fun k hk => laid_other _ _ fun e => by subst e; rw [hk] at hi; cases hi
      exact pend_mono (h.pend j q hjC hjS hq) (hne j hjC) (fun k hk => hne k (h.cC j k hjC hk)) (fun fs hfs => hL _ hfs)
  factIn f hfm := by
    rw [has_ins, Bool.or_eq_true, decide_eq_true_eq]
    rcases hL' f hfm with h1 | h1
    · exact .inl (h.factIn f h1)
    · exact .inr h1.symm

theorem addFact_mem {i : Nat} {fs : List (Addr × List Value)} {L : List Fact} : (∀ f, f ∈ L → f ∈ addFact i fs L) ∧ (∀ f, f ∈ addFact i fs L → f ∈ L ∨ f.1 = i) ∧ (fs = [] ∨ (i, fs) ∈ addFact i fs L) := by
  cases fs with
  | nil => exact ⟨fun f h => h, fun f h => .inl h, .inl rfl⟩
  | cons x xs =>
    refine ⟨fun f h => List.mem_cons_of_mem _ h, fun f h => ?_, .inr List.mem_cons_self⟩
    cases h with
    | head => exact .inr rfl
    | tail _ h => exact .inl h

theorem addFact_facts {i : Nat} {fs : List (Addr × List Value)} {L : List Fact} {w : World} (h : Facts fs w) (h' : Facts (factsOf L) w) : Facts (factsOf (addFact i fs L)) w := by
  cases fs with
  | nil => exact h'
  | cons x xs => exact facts_append h h'

theorem settle (hf : Fit P ops bef qm) (h0 : Sim n D env₀ a₀) {QP : List PanicEntry → World → Prop} {Q : Env → World → Prop} {S : Nat} {a : Act} {w : World} :
    ∀ (fuel C : Nat) (L : List Fact) (env : Env) (vals : Nat → Value), canonF (wpM P) P n ops bef qm QP Q fuel C L env w → Inv P n D ops bef env₀ a₀ C S vals L env a w →
    ∃ fuel' C' L' env' vals', canonF (wpM P) P n ops bef qm QP Q (fuel' + 1) C' L' env' w ∧ Inv P n D ops bef env₀ a₀ C' S vals' L' env' a w ∧ firstR (ready bef qm C' true) ops.size 0 = none := by
  intro fuel
  induction fuel with
  | zero => intro C L env vals h _; exact h.elim
  | succ fuel ih =>
    intro C L env vals h hI
    cases hr : firstR (ready bef qm C true) ops.size 0 with
    | none => exact ⟨fuel, C, L, env, vals, h, hI, hr⟩
    | some i =>
      obtain ⟨hrd, _, hilt⟩ := firstR_some hr
      obtain ⟨hiC, hb, o, ho, hq⟩ := ready_el hf (by omega) hrd
      unfold canonF at h
      simp only [hr, ho, force_eq] at h
      cases hd : okDst n o.dst with
      | false => simp only [hd, cond_false] at h; exact h.elim
      | true =>
        simp only [hd, cond_true] at h
        rcases guardF_sound h with ⟨env', he, hrun, hy⟩ | ⟨env', he, hrun, hy⟩
        · have hR := right_of hf h0 hI ho hiC hb he
          obtain ⟨v, fs, hfs, hk, hall⟩ := opQ_qt P o.op o.type env' _ w hrun
          have hne : ∀ k, has C k = true → laid vals i v k = vals k := fun k hkC => laid_other _ _ fun e => by subst e; rw [hkC] at hiC; cases hiC
          have hR' : Right ops bef a₀ (laid vals i v) i o env' := fun t ht u hu => by
            obtain ⟨r1, r2⟩ := hR t ht u hu
            exact ⟨fun j q hq hd hj => by rw [hne j (hb j hj)]; exact r1 j q hq hd hj, r2⟩
          refine ih _ _ _ _ hk (inv_quiet hI ho hiC hb he v addFact_mem.1 addFact_mem.2.1 (addFact_facts hfs hI.facts) ?_)
          refine ⟨hd, env', hR', .inl ⟨fun a ha => hy a (agrees_guard fun t ht u hu => ha t ht u ((he t).trans hu)), fs, addFact_mem.2.2, fun K w' hf' hK => hall K w' hf' ?_⟩⟩
          rw [laid_same] at hK; exact hK
        · have hR := right_of hf h0 hI ho hiC hb he
          have hne : ∀ k, has C k = true → laid vals i undef k = vals k := fun k hkC => laid_other _ _ fun e => by subst e; rw [hkC] at hiC; cases hiC
          have hR' : Right ops bef a₀ (laid vals i undef) i o env' := fun t ht u hu => by
            obtain ⟨r1, r2⟩ := hR t ht u hu
            exact ⟨fun j q hq hd hj => by rw [hne j (hb j hj)]; exact r1 j q hq hd hj, r2⟩
          refine ih _ _ _ _ hrun (inv_quiet hI ho hiC hb he undef (fun f h => h) (fun f h => .inl h) hI.facts ?_)
          exact ⟨hd, env', hR', .inr ⟨fun a ha => hy a (agrees_guard fun t ht u hu => ha t ht u ((he t).trans hu)), laid_same _ _ _⟩⟩

theorem bothL_mem {l : List (World → Prop)} {w : World} (h : bothL (wpM P) l w) : ∀ x, x ∈ l → x w := by
  induction l with
  | nil => intro x hx; cases hx
  | cons y l ih =>
    cases l with
    | nil => intro x hx; obtain rfl := List.mem_singleton.1 hx; exact h
    | cons z l =>
      intro x hx
      cases hx with
      | head => exact h.1
      | tail _ hx => exact ih h.2 x hx

theorem keepF_el {l : List (Addr × List Value)} {x : World → Prop} {w : World} (h : keepF (wpM P) l x w) : Facts l w ∧ x w := by
  cases l with
  | nil => exact ⟨Facts.nil w, h⟩
  | cons y l => exact h

/-- The real run takes the step that was taken up before. -/
theorem inv_step {C S : Nat} {vals : Nat → Value} {L : List Fact} {env : Env} {a : Act} {w : World} (hf : Fit P ops bef qm) (h : Inv P n D ops bef env₀ a₀ C S vals L env a w)
    {i : Nat} {o : Oper} (ho : ops[i]? = some o) (hiC : has C i = true) (hb : ∀ j, has (row bef i) j = true → has S j = true) (hd : okDst n o.dst = true) :
    Inv P n D ops bef env₀ a₀ C (ins S i) vals L env (a.put o.dst (vals i)) w where
  sub j hj := by
    rw [has_ins, Bool.or_eq_true, decide_eq_true_eq] at hj
    rcases hj with hj | rfl
    · exact h.sub j hj
    · exact hiC
  bd := h.bd
  cC := h.cC
  cS j k hj hk := by
    rw [has_ins, Bool.or_eq_true, decide_eq_true_eq] at hj
    rw [has_ins, Bool.or_eq_true]
    rcases hj with hj | rfl
    · exact .inl (h.cS j k hj hk)
    · exact .inl (hb k hk)
  envc := h.envc
  size := by rw [put_size]; exact h.size
  defers := by rw [put_defers]; exact h.defers
  done j q d hj hq hqd := by
    rw [has_ins, Bool.or_eq_true, decide_eq_true_eq] at hj
    by_cases hji : i = j
    · subst hji
      rw [ho] at hq; obtain rfl := Option.some.inj hq
      rw [hqd]
      refine put_tmps_same ?_
      rw [h.size]; rw [hqd] at hd; simp [okDst, Nat.blt] at hd; omega
    · have hjS := hj.resolve_right hji
      rw [put_tmps_other fun e => hji (hf.single i j o q d ho hq e hqd)]
      exact h.done j q d hjS hq hqd
  kept d hno := by
    rw [put_tmps_other (hno i o (by simp [has_ins]) ho)]
    exact h.kept d fun j q hj hq => hno j q (by simp [has_ins, hj]) hq
  facts := h.facts
  pend j q hj hjS hq := by
    refine h.pend j q hj ?_ hq
    rw [has_ins, Bool.or_eq_false_iff] at hjS; exact hjS.1
  factIn := h.factIn

theorem inv_world {C S : Nat} {vals : Nat → Value} {L : List Fact} {env : Env} {a : Act} {w w' : World} (h : Inv P n D ops bef env₀ a₀ C S vals L env a w) (hfacts : Facts (factsOf L) w') :
    Inv P n D ops bef env₀ a₀ C S vals L env a w' :=
  { h with facts := hfacts }

/-- An operation that turns the memory is taken up and done at once. -/
theorem inv_effect (hf : Fit P ops bef qm) {C S : Nat} {vals : Nat → Value} {L : List Fact} {env env' : Env} {a : Act} {w w' : World} (h : Inv P n D ops bef env₀ a₀ C S vals L env a w)
    {i : Nat} {o : Oper} (ho : ops[i]? = some o) (hiC : has C i = false) (hiS : has S i = false) (hb : ∀ j, has (row bef i) j = true → has S j = true) (hd : okDst n o.dst = true) (he : ∀ d, env' d = env d) (v : Value)
    (hfacts : Facts (factsOf (L.filter fun f => !(has (row bef i) f.1))) w') :
    Inv P n D ops bef env₀ a₀ (ins C i) (ins S i) (laid vals i v) (L.filter fun f => !(has (row bef i) f.1)) (env'.put o.dst v) (a.put o.dst v) w' := by
  have hne : ∀ k, has C k = true → laid vals i v k = vals k := fun k hkC => laid_other _ _ fun e => by subst e; rw [hkC] at hiC; cases hiC
  refine ⟨fun j hj => ?_, fun j hj => ?_, fun j k hj hk => ?_, fun j k hj hk => ?_, envc_put h ho hiC he v, by rw [put_size]; exact h.size, by rw [put_defers]; exact h.defers, fun j q d hj hq hqd => ?_, fun d hno => ?_, hfacts, fun j q hj hjS hq => ?_, fun f hfm => ?_⟩
  · rw [has_ins, Bool.or_eq_true, decide_eq_true_eq] at hj
    rcases hj with hj | rfl
    · simp [has_ins, h.sub j hj]
    · simp [has_ins]
  · rw [has_ins, Bool.or_eq_true, decide_eq_true_eq] at hj
    rcases hj with hj | rfl
    · exact h.bd j hj
    · exact (Array.getElem?_eq_some_iff.1 ho).1
  · rw [has_ins, Bool.or_eq_true, decide_eq_true_eq] at hj
    rw [has_ins, Bool.or_eq_true]
    rcases hj with hj | rfl
    · exact .inl (h.cC j k hj hk)
    · exact .inl (h.sub k (hb k hk))
  · rw [has_ins, Bool.or_eq_true, decide_eq_true_eq] at hj
    rw [has_ins, Bool.or_eq_true]
    rcases hj with hj | rfl
    · exact .inl (h.cS j k hj hk)
    · exact .inl (hb k hk)
  · rw [has_ins, Bool.or_eq_true, decide_eq_true_eq] at hj
    by_cases hji : i = j
    · subst hji
      rw [ho] at hq; obtain rfl := Option.some.inj hq
      rw [hqd, laid_same]
      refine put_tmps_same ?_
      rw [h.size]; rw [hqd] at hd; simp [okDst, Nat.blt] at hd; omega
    · have hjS := hj.resolve_right hji
      rw [put_tmps_other fun e => hji (hf.single i j o q d ho hq e hqd), hne j (h.sub j hjS)]
      exact h.done j q d hjS hq hqd
  · rw [put_tmps_other (hno i o (by simp [has_ins]) ho)]
    exact h.kept d fun j q hj hq => hno j q (by simp [has_ins, hj]) hq
  · rw [has_ins, Bool.or_eq_true, decide_eq_true_eq] at hj
    rw [has_ins, Bool.or_eq_false_iff, decide_eq_false_iff_not] at hjS
    have hjC := hj.resolve_right hjS.2
    refine pend_mono (h.pend j q hjC hjS.1 hq) (hne j hjC) (fun k hk => hne k (h.cC j k hjC hk)) fun fs hfs => ?_
    rw [List.mem_filter]
    refine ⟨hfs, ?_⟩
    cases hx : has (row bef i) j with
    | false => rfl
    | true => rw [hb j hx] at hjS; cases hjS.1
  · rw [List.mem_filter] at hfm
    rw [has_ins, Bool.or_eq_true]
    exact .inl (h.factIn f hfm.1)

theorem forget_sim (h0 : Sim n D env₀ a₀) {C S : Nat} {vals : Nat → Value} {L : List Fact} {env : Env} {a : Act} {w : World} (h : Inv P n D ops bef env₀ a₀ C S vals L env a w) :
    Sim n D (forget env₀ (dstsOf ops.toList)) a := by
  refine ⟨h.size, h.defers, fun d v hv => ?_⟩
  rw [forget_get] at hv
  split at hv
  · cases hv
  · rename_i hd
    rw [h.kept d fun j q _ hq hqd => hd ?_]
    · exact h0.slot d v hv
    · unfold dstsOf
      rw [List.mem_filterMap]
      exact ⟨q, by rw [Array.mem_toList_iff]; exact Array.mem_of_getElem? hq, hqd⟩

theorem canon_sound (hf : Fit P ops bef qm) (h0 : Sim n D env₀ a₀) {QP : List PanicEntry → World → Prop} {Q : Env → World → Prop} {Qx : Exit → Act → World → Prop}
    (hQ : ∀ env' a' w', Sim n D env' a' → Keeps (dstsOf ops.toList) a₀ a' → Q env' w' → Qx .normal a' w') (hQP : ∀ c a' w', Sim n D (forget env₀ (dstsOf ops.toList)) a' → QP c w' → Qx (.panic c) a' w') :
    ∀ (l : List Nat) (S : Nat), Lin ops S l → ∀ (fuel C : Nat) (L : List Fact) (env : Env) (vals : Nat → Value) (a : Act) (w : World),
      canonF (wpM P) P n ops bef qm QP Q fuel C L env w → Inv P n D ops bef env₀ a₀ C S vals L env a w → wpOps P ops Qx l a w := by
  intro l
  induction l with
  | nil =>
    intro S hl fuel C L env vals a w h hI
    cases hl with
    | nil hall =>
    obtain ⟨fuel, C, L, env, vals, h, hI, hset⟩ := settle hf h0 fuel C L env vals h hI
    have hC : ∀ i, i < ops.size → has C i = true := fun i hi => hI.sub i (hall i hi)
    have heff : readyList bef qm C false ops.size = [] := by
      cases hr : readyList bef qm C false ops.size with
      | nil => rfl
      | cons i rest =>
        have hm : i ∈ readyList bef qm C false ops.size := by rw [hr]; exact List.mem_cons_self
        obtain ⟨hilt, hrd⟩ := mem_readyList.1 hm
        have := (ready_el hf hilt hrd).1
        rw [hC i hilt] at this; cases this
    unfold canonF at h
    simp only [hset, heff, allLt_in hC, cond_true] at h
    refine hQ env a w ⟨hI.size, hI.defers, fun d u hu => ?_⟩ (fun d hd => ?_) h
    · rcases hI.envc d u hu with ⟨k, q, hk, hq, hqd, hv⟩ | ⟨hno, h00⟩
      · rw [hI.done k q d (hall k (hI.bd k hk)) hq hqd, hv]
      · rw [hI.kept d fun j q hj hq => hno j q (hI.sub j hj) hq]
        exact h0.slot d u h00
    · refine hI.kept d fun j q _ hq hqd => hd ?_
      unfold dstsOf
      rw [List.mem_filterMap]
      exact ⟨q, by rw [Array.mem_toList_iff]; exact Array.mem_of_getElem? hq, hqd⟩
  | cons i l ih =>
    intro S hl fuel C L env vals a w h hI
    cases hl with
    | cons hi hiS hedge hl =>
    obtain ⟨fuel, C, L, env, vals, h, hI, hset⟩ := settle hf h0 fuel C L env vals h hI
    have ho : ops[i]? = some ops[i] := Array.getElem?_eq_getElem hi
    generalize ops[i] = o at ho
    have hb : ∀ j, has (row bef i) j = true → has S j = true := by
      intro j hj
      rw [hf.befs i hi] at hj
      obtain ⟨e, h1, h2, h3⟩ := befStep_el ho hj
      have hS := hedge o ho e h1 h2
      rcases h3 with rfl | h3
      · exact hS
      · exact hI.cS e.on j hS h3
    simp only [wpOps, ho, wanted_eq]
    cases hiC : has C i with
    | true =>
      obtain ⟨hd, env', hR, hx⟩ := hI.pend i o hiC hiS ho
      have hag := agrees_of hf hI ho hiS hb hR
      have hnext : wpOps P ops Qx l (a.put o.dst (vals i)) w := ih _ hl _ _ _ _ _ _ _ h (inv_step hf hI ho hiC hb hd)
      rcases hx with ⟨hy, fs, hfs, hk⟩ | ⟨hno, hu⟩
      · rw [hy a hag, if_pos rfl]
        left
        have hfw : Facts fs w := by
          rcases hfs with rfl | hfs
          · exact Facts.nil w
          · intro x hx
            refine hI.facts x ?_
            clear hnext h hset hk hI
            induction L with
            | nil => cases hfs
            | cons f L ihL =>
              cases hfs with
              | head => exact List.mem_append_left _ hx
              | tail _ hfs => exact List.mem_append_right _ (ihL hfs)
        have hq := hk (fun v _ w' => v = vals i ∧ w' = w) w hfw ⟨rfl, rfl⟩
        exact opQ_value (env := env') (fun x hx v hv => agrees_eval hag hx hv) hq fun v _ w' ⟨hv, hw⟩ => by rw [hv, hw]; exact hnext
      · rw [hno a hag, if_neg (by simp)]
        rw [hu] at hnext; exact hnext
    | false =>
      have hbC : ∀ j, has (row bef i) j = true → has C j = true := fun j hj => hI.sub j (hb j hj)
      have hrd := ready_in hf ho hiC hbC
      cases hq : quietOp P o.op with
      | true =>
        rw [hq] at hrd
        rw [firstR_none hset i (by omega) (by omega)] at hrd; cases hrd
      | false =>
        rw [hq] at hrd
        have hm : i ∈ readyList bef qm C false ops.size := mem_readyList.2 ⟨hi, hrd⟩
        unfold canonF at h
        simp only [hset] at h
        cases hr : readyList bef qm C false ops.size with
        | nil => rw [hr] at hm; cases hm
        | cons j rest =>
          rw [hr] at hm
          simp only [hr] at h
          have hi' := bothL_mem h _ (List.mem_map_of_mem hm)
          simp only [ho, force_eq] at hi'
          cases hd : okDst n o.dst with
          | false => simp only [hd, cond_false] at hi'; exact hi'.elim
          | true =>
            simp only [hd, cond_true] at hi'
            rcases guardF_sound hi' with ⟨env', he, hrun, hy⟩ | ⟨env', he, hrun, hy⟩
            · have hR := right_of hf h0 hI ho hiC hbC he
              have hag := agrees_of hf hI ho hiS hb hR
              rw [hy a (agrees_guard fun t ht u hu => hag t ht u ((he t).trans hu)), if_pos rfl]
              left
              refine opF_value (env := env') (fun x hx v hv => agrees_eval hag hx hv) hrun (fun v w' hk => ?_) (fun c w' hk => hQP c a w' (forget_sim h0 hI) hk)
              obtain ⟨hfw, hk⟩ := keepF_el hk
              exact ih _ hl _ _ _ _ _ _ _ hk (inv_effect hf hI ho hiC hiS hb hd he v hfw)
            · have hR := right_of hf h0 hI ho hiC hbC he
              have hag := agrees_of hf hI ho hiS hb hR
              rw [hy a (agrees_guard fun t ht u hu => hag t ht u ((he t).trans hu)), if_neg (by simp)]
              refine ih _ hl _ _ _ _ _ _ _ hrun (inv_effect hf hI ho hiC hiS hb hd he undef fun x hx => hI.facts x ?_)
              clear hrun hi' h hset hI hR hag
              induction L with
              | nil => cases hx
              | cons f L ihL =>
                rw [List.filter_cons] at hx
                split at hx
                · rcases List.mem_append.1 hx with hx | hx
                  · exact List.mem_append_left _ hx
                  · exact List.mem_append_right _ (ihL hx)
                · exact List.mem_append_right _ (ihL hx)

theorem regionF_sound {draw : Bool} {id : Nat} {QP : List PanicEntry → Env → World → Prop} {Q : Env → World → Prop} {Qx : Exit → Act → World → Prop} {env : Env} {a : Act} {w : World}
    (h : regionF (wpM P) P n ops draw QP Q env w) (h0 : Sim n D env a)
    (hQ : ∀ env' a' w', Sim n D env' a' → Keeps (dstsOf ops.toList) a a' → Q env' w' → Qx .normal a' w') (hQP : ∀ c env' a' w', Sim n D env' a' → QP c env' w' → Qx (.panic c) a' w') :
    (Code.region id ops draw).wp P Qx a w := by
  cases draw with
  | false =>
    simp only [regionF, cond_false] at h
    exact wp_region_list (opsF_sound ops.toList env a w h h0 (Keeps.refl _ _) (fun d hd => hd) hQ hQP)
  | true =>
    simp only [regionF, cond_true, force_eq] at h
    cases hr : regionOk P ops (befOf ops ops.size) (quietMask P ops ops.size) with
    | false => rw [hr] at h; exact h.elim
    | true =>
      rw [hr] at h
      have hf := fit_of hr
      refine wp_region_draw fun t => ?_
      have hno : ∀ i, has 0 i = false := fun i => by simp [has]
      refine canon_sound (P := P) hf h0 hQ (fun c a' w' h1 h2 => hQP c _ a' w' h1 h2) _ 0 (schedule_lin hf.back hf.mixed t) (ops.size + 1) 0 [] env (fun _ => undef) a _ h ?_
      exact ⟨fun i hi => (by rw [hno] at hi; cases hi), fun i hi => (by rw [hno] at hi; cases hi), fun i j hi => (by rw [hno] at hi; cases hi), fun i j hi => (by rw [hno] at hi; cases hi),
        fun d u hu => .inr ⟨fun i o hi => (by rw [hno] at hi; cases hi), hu⟩, h0.size, h0.defers, fun i o d hi => (by rw [hno] at hi; cases hi), fun d _ => rfl, Facts.nil _,
        fun i o hi => (by rw [hno] at hi; cases hi), fun f hf => by cases hf⟩
end
end Hl
end Go.Proofs.Ytdmfnlcbfmahhaa
