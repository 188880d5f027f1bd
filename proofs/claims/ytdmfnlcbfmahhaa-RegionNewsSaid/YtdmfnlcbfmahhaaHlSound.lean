/- The evaluator's terms are sound for each operation of the model. -/
import Derived.Test.YtdmfnlcbfmahhaaHlEv
namespace Go.Proofs.Ytdmfnlcbfmahhaa
namespace Hl
open Go

section
variable {P : Program} {o : Oper} {a : Act} {w : World} {next : Act → World → Prop} {Q : Exit → Act → World → Prop}

theorem wp_value {s : Sem Value} (hx : execOp a.eval o = (do let v ← s; pure (.value v))) (h : RunsTo P s w fun v w' => next (a.put o.dst v) w') : o.wp P a w next Q := by
  unfold Oper.wp; rw [hx, Sem.run_bind]
  unfold RunsTo at h
  cases hr : s.run P w with
  | ok v w' => rw [hr] at h; simpa [Oper.upon] using h
  | halt x w' => rw [hr] at h; exact h.elim

theorem wp_unit {s : Sem Unit} (hx : execOp a.eval o = (do s; pure .skip)) (h : RunsTo P s w fun _ w' => next (a.put o.dst undef) w') : o.wp P a w next Q := by
  unfold Oper.wp; rw [hx, Sem.run_bind]
  unfold RunsTo at h
  cases hr : s.run P w with
  | ok v w' => rw [hr] at h; simpa [Oper.upon] using h
  | halt x w' => rw [hr] at h; exact h.elim

theorem wp_pure {v : Value} (hx : execOp a.eval o = pure (.value v)) (h : next (a.put o.dst v) w) : o.wp P a w next Q := by
  unfold Oper.wp; rw [hx]; simpa [Oper.upon] using h

theorem wV_el {v : Option Value} {F : Value → World → Prop} (h : wV (wpM P) v F w) : ∃ u, v = some u ∧ F u w := by
  cases v with
  | none => exact h.elim
  | some u => exact ⟨u, rfl, h⟩
theorem wInt_el {v : Option Value} {F : IntKind → Int → World → Prop} (h : wInt (wpM P) v F w) : ∃ k n, v = some (.int k n) ∧ F k n w := by
  unfold wInt at h; split at h
  · exact ⟨_, _, rfl, h⟩
  · exact h.elim
theorem wPtr_el {v : Option Value} {F : Option Addr → World → Prop} (h : wPtr (wpM P) v F w) : ∃ p, v = some (.pointer p) ∧ F p w := by
  unfold wPtr at h; split at h
  · exact ⟨_, rfl, h⟩
  · exact h.elim
theorem wSl_el {v : Option Value} {F : Sl → World → Prop} (h : wSl (wpM P) v F w) : ∃ s : Sl, v = some (.slice s.base s.len s.cap) ∧ F s w := by
  unfold wSl at h; split at h
  · exact ⟨⟨_, _, _⟩, rfl, h⟩
  · exact h.elim

theorem run_underlying_some {t : TypeId} {d : TypeDesc} (h : P.underlying t = some d) : (underlying t).run P w = .ok d w := by
  simp [underlying, h]

theorem run_typeInfo_some {t : TypeId} {i : TypeInfo} (h : P.info? t = some i) : (typeInfo t).run P w = .ok i w := by
  simp [typeInfo, h]

theorem run_sizeOf_some {t : TypeId} {n : Nat} (h : sizeIn P t = some n) : (sizeOf t).run P w = .ok n w := by
  unfold sizeIn at h
  cases hi : P.info? t with
  | none => rw [hi] at h; cases h
  | some i => rw [hi] at h; simp at h; simp [sizeOf, run_typeInfo_some hi, h]

theorem run_zero_some {t : TypeId} {v : Value} (h : zeroOf P t = some v) : (zeroValue t).run P w = .ok v w := by
  unfold zeroOf at h
  cases hi : P.info? t with
  | none => rw [hi] at h; cases h
  | some i => rw [hi] at h; simp at h; simp [zeroValue, run_typeInfo_some hi, h]

theorem run_isAgg_some {t : TypeId} {b : Bool} (h : aggIn P t = some b) : (isAgg t).run P w = .ok b w := by
  unfold aggIn at h
  cases hu : P.underlying t with
  | none => rw [hu] at h; cases h
  | some d => rw [hu] at h; cases d <;> simp_all [isAgg, run_underlying_some hu]

theorem run_load_some {x : Addr} {v : Value} (h : w.cell? x = some v) : (load x).run P w = .ok v w := by simp [h]

theorem add_zero' (x : Addr) : x.add 0 = x := by simp [Addr.add]

theorem run_loadCellsFrom {x : Addr} (vs : List Value) : ∀ (i : Nat) (acc : Array Value), (∀ j v, vs[j]? = some v → w.cell? (x.add (i + j)) = some v) →
    (loadCellsFrom x i vs.length acc).run P w = .ok (acc ++ vs.toArray) w := by
  induction vs with
  | nil => intro i acc _; simp [loadCellsFrom]
  | cons v vs ih =>
    intro i acc h
    have h0 : w.cell? (x.add i) = some v := by simpa using h 0 v rfl
    have := ih (i + 1) (acc.push v) (fun j u hu => by have := h (j + 1) u (by simpa using hu); rwa [show i + 1 + j = i + (j + 1) by omega])
    simp only [List.length_cons, loadCellsFrom, Sem.run_bind, run_load_some h0, Result.andThen_ok, this]
    simp

theorem run_loadCells {x : Addr} {vs : List Value} (h : rowAt w x vs) : (loadCells x vs.length).run P w = .ok vs.toArray w := by
  have := run_loadCellsFrom (P := P) (w := w) (x := x) vs 0 #[] (fun j v hv => by simpa using h j v hv)
  simpa [loadCells] using this

theorem Row.vals_length : (ks : List Kind) → (r : Row ks) → (Row.vals ks r).length = ks.length
  | [], _ => rfl
  | k :: ks, r => by simp [Row.vals, Row.vals_length ks r.2]

theorem runsTo_bind {α β : Type} {s : Sem α} {f : α → Sem β} {K : β → World → Prop} : RunsTo P (s >>= f) w K ↔ RunsTo P s w fun v w' => RunsTo P (f v) w' K := by
  unfold RunsTo
  rw [Sem.run_bind]
  cases s.run P w <;> simp

theorem runsTo_pure {α : Type} {v : α} {K : α → World → Prop} : RunsTo P (pure v) w K ↔ K v w := by
  simp [RunsTo]

theorem runsTo_of_run {α : Type} {s : Sem α} {v : α} {w' : World} {K : α → World → Prop} (h : s.run P w = .ok v w') (hk : K v w') : RunsTo P s w K := by
  simpa [RunsTo, h] using hk

theorem evalL_el {env : Env} : ∀ {xs : List Operand} {vs : List Value}, evalL env xs = some vs → (∀ x ∈ xs, ∀ v, evalO env x = some v → a.eval x = v) → xs.map a.eval = vs := by
  intro xs
  induction xs with
  | nil => intro vs h _; simp [evalL] at h; simp [h]
  | cons x xs ih =>
    intro vs h he
    simp only [evalL] at h
    split at h
    · cases h
    · rename_i v hv
      split at h
      · cases h
      · rename_i us hus
        obtain rfl : v :: us = vs := by simpa using h
        simp only [List.map_cons]
        rw [ih hus (fun y hy => he y (List.mem_cons_of_mem _ hy)), he x List.mem_cons_self v hv]


theorem eqGuard_int (op : BinOp) (t : TypeId) (x y : Operand) (k k' : IntKind) (m n : Int) : (eqGuard op t x y (.int k m) (.int k' n)).run P w = .ok () w := by
  cases op <;> rfl

theorem eqGuard_iface (op : BinOp) (t : TypeId) (x y : Operand) (u : TypeId) (v : Value) : (eqGuard op t x y (.iface u v) .nilIface).run P w = .ok () w := by
  cases op <;> rfl

theorem eqGuard_nil (op : BinOp) (t : TypeId) (x y : Operand) (hy : isNil y = true) : (eqGuard op t x y .nilIface .nilIface).run P w = .ok () w := by
  have : ∃ c, y = .const c := by
    cases y with
    | const c => exact ⟨c, rfl⟩
    | _ => simp [isNil] at hy
  obtain ⟨c, rfl⟩ := this
  cases op <;> simp [eqGuard]

theorem eqGuard_bool (op : BinOp) (t : TypeId) (x y : Operand) (m n : Bool) : (eqGuard op t x y (.bool m) (.bool n)).run P w = .ok () w := by
  cases op <;> rfl

theorem zip_eval {l : List (Nat × Operand)} {f : Operand → Value} {vs : List Value} (h : (l.map (·.2)).map f = vs) : ((l.map (·.1)).zip vs).toArray = (l.toArray.map fun p => (p.1, f p.2)) := by
  subst h
  induction l with
  | nil => simp
  | cons p l ih => simpa using ih

theorem optV_el {env : Env} {x : Option Operand} {v : Option Value} (h : optV env x = some v) (he : ∀ y, x = some y → ∀ v, evalO env y = some v → a.eval y = v) : x.map a.eval = v := by
  cases x with
  | none => simpa [optV] using h
  | some y =>
    simp only [optV] at h
    split at h
    · rename_i u hu
      simp at h; subst h
      simp [he y rfl u hu]
    · cases h

theorem opQ_fieldAddr {t : TypeId} {x : Operand} {f : Nat} {ty : TypeId} {pos : String} {dst : Option Tmp} {aft : Array Edge} {g : Option (Nat × Bool)} {env : Env} {K : Value → List (Addr × List Value) → World → Prop}
    (he : ∀ z ∈ (Op.fieldAddr t x f).operands.toList, ∀ v, evalO env z = some v → a.eval z = v)
    (h : opQ (wpM P) P (Op.fieldAddr t x f) ty env K w) (hK : ∀ v fs w', K v fs w' → next (a.put dst v) w') :
    Oper.wp P ⟨dst, Op.fieldAddr t x f, ty, pos, aft, g⟩ a w next Q := by
  obtain ⟨p, hp, h⟩ := wPtr_el h
  obtain ⟨ad, rfl, h⟩ := dr_el h
  cases hu : P.underlying t with
  | none => rw [hu] at h; exact h.elim
  | some d =>
    cases d with
    | struct fs =>
      rw [hu] at h
      cases hf : fs[f]? with
      | none => simp only [hf] at h; exact h.elim
      | some fd =>
        simp only [hf] at h
        cases hz : sizeIn P fd.type with
        | none => simp only [hz, cond_false] at h; exact h.elim
        | some n =>
          simp only [hz] at h
          cases hb : Nat.beq n 0 with
          | true => rw [hb] at h; exact h.elim
          | false =>
            rw [hb] at h
            have hn : n ≠ 0 := fun e => by subst e; cases hb
            refine wp_value (s := Instr.fieldAt t (.pointer (some ad)) f) (by simp [execOp, he x (by simp [Op.operands]) _ hp]) ?_
            simp only [Instr.fieldAt, runsTo_bind]
            refine runsTo_of_run (run_underlying_some hu) ?_
            simp only [hf, Instr.sureAddr, runsTo_bind, runsTo_pure, fieldPlace]
            refine runsTo_of_run (run_sizeOf_some hz) ?_
            rw [if_neg hn]
            exact runsTo_pure.2 (hK _ _ _ h)
    | _ => rw [hu] at h; exact h.elim

theorem opQ_indexAddr {t : TypeId} {x i : Operand} {ty : TypeId} {pos : String} {dst : Option Tmp} {aft : Array Edge} {g : Option (Nat × Bool)} {env : Env} {K : Value → List (Addr × List Value) → World → Prop}
    (he : ∀ z ∈ (Op.indexAddr t x i).operands.toList, ∀ v, evalO env z = some v → a.eval z = v)
    (h : opQ (wpM P) P (Op.indexAddr t x i) ty env K w) (hK : ∀ v fs w', K v fs w' → next (a.put dst v) w') :
    Oper.wp P ⟨dst, Op.indexAddr t x i, ty, pos, aft, g⟩ a w next Q := by
  obtain ⟨k, n, hn, h⟩ := wInt_el h
  have hi := he i (by simp [Op.operands]) _ hn
  cases hu : P.underlying t with
  | none => rw [hu] at h; exact h.elim
  | some d =>
    cases d with
    | slice e =>
      rw [hu] at h
      obtain ⟨s, hs, h⟩ := wSl_el h
      cases hz : sizeIn P e with
      | none => rw [hz] at h; exact h.elim
      | some z =>
        rw [hz] at h
        obtain ⟨hb, h⟩ := h
        obtain ⟨ad, had, h⟩ := dr_el h
        refine wp_value (s := Instr.indexAt t (.slice s.base s.len s.cap) (.int k n)) (by simp [execOp, he x (by simp [Op.operands]) _ hs, hi]) ?_
        simp only [Instr.indexAt, asIntOf, runsTo_bind, runsTo_pure]
        refine runsTo_of_run (run_underlying_some hu) ?_
        simp only [runsTo_pure, runsTo_bind, had]
        refine runsTo_of_run (run_underlying_some hu) ?_
        simp only []
        rw [if_pos hb]
        simp only [runsTo_bind]
        exact runsTo_of_run (run_sizeOf_some hz) ((runsTo_pure (P := P) (K := fun v w' => next (a.put dst v) w')).2 (hK _ _ _ h))
    | array m e =>
      rw [hu] at h
      obtain ⟨p, hp, h⟩ := wPtr_el h
      obtain ⟨ad, rfl, h⟩ := dr_el h
      cases hz : sizeIn P e with
      | none => rw [hz] at h; exact h.elim
      | some z =>
        rw [hz] at h
        obtain ⟨hb, h⟩ := h
        refine wp_value (s := Instr.indexAt t (.pointer (some ad)) (.int k n)) (by simp [execOp, he x (by simp [Op.operands]) _ hp, hi]) ?_
        simp only [Instr.indexAt, asIntOf, runsTo_bind, runsTo_pure]
        refine runsTo_of_run (run_underlying_some hu) ?_
        simp only [Instr.sureAddr, runsTo_pure, runsTo_bind]
        refine runsTo_of_run (run_underlying_some hu) ?_
        simp only []
        rw [if_pos hb]
        simp only [runsTo_bind]
        exact runsTo_of_run (run_sizeOf_some hz) ((runsTo_pure (P := P) (K := fun v w' => next (a.put dst v) w')).2 (hK _ _ _ h))
    | _ => rw [hu] at h; exact h.elim

theorem opQ_index {t : TypeId} {x i : Operand} {ty : TypeId} {pos : String} {dst : Option Tmp} {aft : Array Edge} {g : Option (Nat × Bool)} {env : Env} {K : Value → List (Addr × List Value) → World → Prop}
    (he : ∀ z ∈ (Op.index t x i).operands.toList, ∀ v, evalO env z = some v → a.eval z = v)
    (h : opQ (wpM P) P (Op.index t x i) ty env K w) (hK : ∀ v fs w', K v fs w' → next (a.put dst v) w') :
    Oper.wp P ⟨dst, Op.index t x i, ty, pos, aft, g⟩ a w next Q := by
  obtain ⟨k, n, hn, h⟩ := wInt_el h
  have hi := he i (by simp [Op.operands]) _ hn
  cases hu : P.underlying t with
  | none => rw [hu] at h; exact h.elim
  | some d =>
    cases hx : evalO env x with
    | none => rw [hu, hx] at h; cases d <;> exact h.elim
    | some v =>
      rw [hu, hx] at h
      cases d with
      | array m e =>
        cases v with
        | agg cs =>
          cases hz : zeroOf P e with
          | none => simp only [hz] at h; exact h.elim
          | some z =>
            simp only [hz] at h
            cases hg : aggIn P e with
            | none => simp only [hg, Bool.true_or, cond_true] at h; exact h.elim
            | some b =>
              cases b with
              | true => simp only [hg, Bool.true_or, cond_true] at h; exact h.elim
              | false =>
                cases hs : sizeIn P e with
                | none => simp only [hg, hs, Bool.false_or, Bool.not_false, Bool.true_or, cond_true] at h; exact h.elim
                | some q =>
                  simp only [hg, hs, Bool.false_or] at h
                  cases hb : Nat.beq q 1 with
                  | false => rw [hb] at h; exact h.elim
                  | true =>
                    cases hc : Nat.beq m cs.size with
                    | false => rw [hb, hc] at h; exact h.elim
                    | true =>
                      rw [hb, hc] at h
                      obtain rfl := Nat.eq_of_beq_eq_true hb
                      obtain rfl := Nat.eq_of_beq_eq_true hc
                      obtain ⟨r, h0, hr, h⟩ := h
                      have hlt : n.toNat < cs.size := by
                        have := (List.getElem?_eq_some_iff.1 hr).1
                        simpa using this
                      refine wp_value (s := Instr.index t (.agg cs) (.int k n)) (by simp [execOp, he x (by simp [Op.operands]) _ hx, hi]) ?_
                      simp only [Instr.index, asIntOf, runsTo_bind, runsTo_pure]
                      refine runsTo_of_run (run_underlying_some hu) ?_
                      simp only []
                      rw [if_pos ⟨h0, by omega⟩]
                      simp only [runsTo_bind]
                      refine runsTo_of_run (run_sizeOf_some hs) ?_
                      simp only [part, runsTo_bind, Nat.mul_one]
                      refine runsTo_of_run (run_isAgg_some hg) ?_
                      simp only [Bool.false_eq_true, if_false]
                      rw [Array.getElem?_toList] at hr
                      rw [hr]
                      exact runsTo_pure.2 (hK _ _ _ h)
        | _ => exact h.elim
      | _ => cases v <;> exact h.elim

theorem sliceBound_run {v : Value} {k : IntKind} {i : Int} {y : Nat} {code : BoundsCode} (hv : v = .int k i) (h0 : 0 ≤ i) (h1 : i ≤ y) : (Instr.sliceBound v y code).run P w = .ok i.toNat w := by
  subst hv
  simp [Instr.sliceBound, asIntOf, h0, h1]

theorem intOr_el {d n : Int} {v : Option Value} (h : intOr d v = some n) : (v = none ∧ n = d) ∨ ∃ k, v = some (.int k n) := by
  cases v with
  | none => left; simp [intOr] at h; exact ⟨rfl, h.symm⟩
  | some v => right; cases v <;> simp [intOr] at h; subst h; exact ⟨_, rfl⟩

theorem sliceBounds_run {isSlice : Bool} {len cap : Nat} {lo hi mx : Option Value} {l h m : Int} (hl : intOr 0 lo = some l) (hh : intOr len hi = some h) (hm : intOr cap mx = some m)
    (hn : (mx.isSome && hi.isNone) = false) (hb : 0 ≤ l ∧ l ≤ h ∧ h ≤ m ∧ m ≤ cap) : (Instr.sliceBounds isSlice len cap lo hi mx).run P w = .ok (l.toNat, h.toNat, m.toNat) w := by
  obtain ⟨b0, b1, b2, b3⟩ := hb
  have s1 : ∀ k code, (Instr.sliceBound (.int k m) cap code).run P w = .ok m.toNat w := fun k code => sliceBound_run rfl (by omega) b3
  have s2 : ∀ k code, (Instr.sliceBound (.int k h) m.toNat code).run P w = .ok h.toNat w := fun k code => sliceBound_run rfl (by omega) (by omega)
  have s3 : ∀ k code, (Instr.sliceBound (.int k l) h.toNat code).run P w = .ok l.toNat w := fun k code => sliceBound_run rfl (by omega) (by omega)
  rcases intOr_el hm with ⟨rfl, rfl⟩ | ⟨km, rfl⟩ <;> rcases intOr_el hh with ⟨rfl, rfl⟩ | ⟨kh, rfl⟩ <;> rcases intOr_el hl with ⟨rfl, rfl⟩ | ⟨kl, rfl⟩ <;>
    first | (simp at hn; done) | ((try simp only [Int.toNat_natCast] at s1 s2 s3); simp [Instr.sliceBounds, s1, s2, s3])

theorem opQ_slice {t : TypeId} {x : Operand} {lo hi mx : Option Operand} {ty : TypeId} {pos : String} {dst : Option Tmp} {aft : Array Edge} {g : Option (Nat × Bool)} {env : Env} {K : Value → List (Addr × List Value) → World → Prop}
    (he : ∀ z ∈ (Op.slice t x lo hi mx).operands.toList, ∀ v, evalO env z = some v → a.eval z = v)
    (h : opQ (wpM P) P (Op.slice t x lo hi mx) ty env K w) (hK : ∀ v fs w', K v fs w' → next (a.put dst v) w') :
    Oper.wp P ⟨dst, Op.slice t x lo hi mx, ty, pos, aft, g⟩ a w next Q := by
  simp only [opQ] at h
  cases hlo : optV env lo with
  | none => rw [hlo] at h; exact h.elim
  | some lo' =>
  cases hhi : optV env hi with
  | none => rw [hlo, hhi] at h; exact h.elim
  | some hi' =>
  cases hmx : optV env mx with
  | none => rw [hlo, hhi, hmx] at h; exact h.elim
  | some mx' =>
  rw [hlo, hhi, hmx] at h
  have elo := optV_el (a := a) hlo (fun y hy => he y (by subst hy; simp [Op.operands]))
  have ehi := optV_el (a := a) hhi (fun y hy => he y (by subst hy; simp [Op.operands]))
  have emx := optV_el (a := a) hmx (fun y hy => he y (by subst hy; simp [Op.operands]))
  simp only [] at h
  cases hn : (mx'.isSome && hi'.isNone) with
  | true => rw [hn] at h; exact h.elim
  | false =>
  rw [hn] at h
  simp only [cond_false] at h
  cases hu : P.underlying t with
  | none => rw [hu] at h; exact h.elim
  | some d =>
    cases d with
    | slice e =>
      rw [hu] at h
      obtain ⟨s, hs, h⟩ := wSl_el h
      cases hl : intOr 0 lo' with
      | none => rw [hl] at h; exact h.elim
      | some l =>
      cases hh : intOr s.len hi' with
      | none => rw [hl, hh] at h; exact h.elim
      | some q =>
      cases hm : intOr s.cap mx' with
      | none => rw [hl, hh, hm] at h; exact h.elim
      | some m =>
      cases hz : sizeIn P e with
      | none => rw [hl, hh, hm, hz] at h; exact h.elim
      | some z =>
      rw [hl, hh, hm, hz] at h
      obtain ⟨hb, h⟩ := h
      refine wp_value (s := Instr.sliceAt t (.slice s.base s.len s.cap) lo' hi' mx') (by simp [execOp, he x (by simp [Op.operands]) _ hs, elo, ehi, emx]) ?_
      simp only [Instr.sliceAt, runsTo_bind]
      refine runsTo_of_run (run_underlying_some hu) ?_
      simp only [Instr.slice, runsTo_bind]
      refine runsTo_of_run (run_underlying_some hu) ?_
      simp only [runsTo_bind]
      refine runsTo_of_run (sliceBounds_run hl hh hm hn hb) ?_
      exact runsTo_of_run (run_sizeOf_some hz) ((runsTo_pure (P := P) (K := fun v w' => next (a.put dst v) w')).2 (hK _ _ _ h))
    | array n e =>
      rw [hu] at h
      obtain ⟨p, hp, h⟩ := wPtr_el h
      obtain ⟨ad, rfl, h⟩ := dr_el h
      cases hl : intOr 0 lo' with
      | none => rw [hl] at h; exact h.elim
      | some l =>
      cases hh : intOr n hi' with
      | none => rw [hl, hh] at h; exact h.elim
      | some q =>
      cases hm : intOr n mx' with
      | none => rw [hl, hh, hm] at h; exact h.elim
      | some m =>
      cases hz : sizeIn P e with
      | none => rw [hl, hh, hm, hz] at h; exact h.elim
      | some z =>
      rw [hl, hh, hm, hz] at h
      obtain ⟨hb, h⟩ := h
      refine wp_value (s := Instr.sliceAt t (.pointer (some ad)) lo' hi' mx') (by simp [execOp, he x (by simp [Op.operands]) _ hp, elo, ehi, emx]) ?_
      simp only [Instr.sliceAt, runsTo_bind]
      refine runsTo_of_run (run_underlying_some hu) ?_
      simp only [Instr.sureAddr, runsTo_bind, runsTo_pure]
      refine runsTo_of_run (sliceBounds_run hl hh hm hn hb) ?_
      exact runsTo_of_run (run_sizeOf_some hz) ((runsTo_pure (P := P) (K := fun v w' => next (a.put dst v) w')).2 (hK _ _ _ h))
    | _ => rw [hu] at h; exact h.elim

theorem eqGuard_ptr (op : BinOp) (t : TypeId) (x y : Operand) (m n : Option Addr) : (eqGuard op t x y (.pointer m) (.pointer n)).run P w = .ok () w := by
  cases op <;> rfl

theorem eqGuard_agg (op : BinOp) (t : TypeId) (x y : Operand) (m n : Array Value) (h : P.eqGuardType P.depth t = false) : (eqGuard op t x y (.agg m) (.agg n)).run P w = .ok () w := by
  cases op <;> first | rfl | (simp [eqGuard, h])

set_option maxHeartbeats 1000000 in
theorem opQ_binOp {b : BinOp} {t yt : TypeId} {x y : Operand} {ty : TypeId} {pos : String} {dst : Option Tmp} {aft : Array Edge} {g : Option (Nat × Bool)} {env : Env} {K : Value → List (Addr × List Value) → World → Prop}
    (he : ∀ z ∈ (Op.binOp b t x y yt).operands.toList, ∀ v, evalO env z = some v → a.eval z = v)
    (h : opQ (wpM P) P (Op.binOp b t x y yt) ty env K w) (hK : ∀ v fs w', K v fs w' → next (a.put dst v) w') :
    Oper.wp P ⟨dst, Op.binOp b t x y yt, ty, pos, aft, g⟩ a w next Q := by
  simp only [opQ] at h
  cases hx : evalO env x with
  | none => rw [hx] at h; exact h.elim
  | some u =>
  cases hy : evalO env y with
  | none => rw [hx, hy] at h; cases u <;> exact h.elim
  | some v =>
  have ex := he x (by simp [Op.operands]) _ hx
  have ey := he y (by simp [Op.operands]) _ hy
  rw [hx, hy] at h
  have key : ∀ {s : Sem Value}, (∀ w : World, (eqGuard b t x y u v).run P w = .ok () w) → (∀ w : World, (binOp b t u v).run P w = s.run P w) → RunsTo P s w (fun v w' => next (a.put dst v) w') →
      Oper.wp P ⟨dst, Op.binOp b t x y yt, ty, pos, aft, g⟩ a w next Q := by
    intro s hg hb hr
    refine wp_value (s := do eqGuard b t x y u v; binOp b t u v) (by simp [execOp, ex, ey]) ?_
    rw [runsTo_bind]
    refine runsTo_of_run (hg w) ?_
    unfold RunsTo at *
    rw [hb]; exact hr
  cases u with
  | int k m =>
    cases v with
    | int k' n =>
      have hg : ∀ w : World, (eqGuard b t x y (.int k m) (.int k' n)).run P w = .ok () w := fun w => eqGuard_int b t x y k k' m n
      have gen : semQ (wpM P) P (binOp b t (.int k m) (.int k' n)) (fun v => K v []) w → Oper.wp P ⟨dst, Op.binOp b t x y yt, ty, pos, aft, g⟩ a w next Q :=
        fun h => key hg (fun _ => rfl) (RunsTo.mono (semQ_sound _ (fun v => K v []) w h) (fun v w' hk => hK v _ w' hk))
      cases b with
      | shl =>
        have : 0 ≤ n ∧ K (.int k (k.wrap (m * 2 ^ (min n.toNat k.bits)))) [] w := by
          cases hnn : isNN y with
          | false => simp only [hnn, cond_false] at h; exact h
          | true =>
            simp only [hnn, cond_true] at h
            refine ⟨?_, h⟩
            cases y with
            | const c => cases c <;> first | (simp [isNN] at hnn; done) | (simp [isNN] at hnn; simp [evalO] at hy; omega)
            | _ => simp [isNN] at hnn
        obtain ⟨h0, h⟩ := this
        exact key (s := pure (.int k (k.wrap (m * 2 ^ (min n.toNat k.bits))))) hg (fun w => by simp [binOp, Op.shift]; intro hneg; omega) (runsTo_pure.2 (hK _ _ _ h))
      | shr =>
        have : 0 ≤ n ∧ K (.int k (m.fdiv (2 ^ (min n.toNat k.bits)))) [] w := by
          cases hnn : isNN y with
          | false => simp only [hnn, cond_false] at h; exact h
          | true =>
            simp only [hnn, cond_true] at h
            refine ⟨?_, h⟩
            cases y with
            | const c => cases c <;> first | (simp [isNN] at hnn; done) | (simp [isNN] at hnn; simp [evalO] at hy; omega)
            | _ => simp [isNN] at hnn
        obtain ⟨h0, h⟩ := this
        exact key (s := pure (.int k (m.fdiv (2 ^ (min n.toNat k.bits))))) hg (fun w => by simp [binOp, Op.shift]; intro hneg; omega) (runsTo_pure.2 (hK _ _ _ h))
      | quo =>
        cases hk : decide (k = k') with
        | false => simp only [hk, cond_false] at h; exact h.elim
        | true =>
          simp only [hk, cond_true] at h
          obtain rfl := of_decide_eq_true hk
          have : n ≠ 0 ∧ K (.int k (k.wrap (m.tdiv n))) [] w := by
            cases hnn : isNZ y with
            | false => simp only [hnn, cond_false] at h; exact h
            | true =>
              simp only [hnn, cond_true] at h
              refine ⟨?_, h⟩
              cases y with
              | const c => cases c <;> first | (simp [isNZ] at hnn; done) | (simp [isNZ] at hnn; simp [evalO] at hy; omega)
              | _ => simp [isNZ] at hnn
          obtain ⟨h0, h⟩ := this
          exact key (s := pure (.int k (k.wrap (m.tdiv n)))) hg (fun w => by simp [binOp, Op.intDiv, h0]) (runsTo_pure.2 (hK _ _ _ h))
      | rem =>
        cases hk : decide (k = k') with
        | false => simp only [hk, cond_false] at h; exact h.elim
        | true =>
          simp only [hk, cond_true] at h
          obtain rfl := of_decide_eq_true hk
          have : n ≠ 0 ∧ K (.int k (m.tmod n)) [] w := by
            cases hnn : isNZ y with
            | false => simp only [hnn, cond_false] at h; exact h
            | true =>
              simp only [hnn, cond_true] at h
              refine ⟨?_, h⟩
              cases y with
              | const c => cases c <;> first | (simp [isNZ] at hnn; done) | (simp [isNZ] at hnn; simp [evalO] at hy; omega)
              | _ => simp [isNZ] at hnn
          obtain ⟨h0, h⟩ := this
          exact key (s := pure (.int k (m.tmod n))) hg (fun w => by simp [binOp, Op.intDiv, h0]) (runsTo_pure.2 (hK _ _ _ h))
      | _ => exact gen h
    | _ => exact h.elim
  | bool m =>
    cases v with
    | bool n =>
      exact key (fun w => eqGuard_bool b t x y m n) (fun _ => rfl) (RunsTo.mono (semQ_sound _ (fun v => K v []) w h) (fun v w' hk => hK v _ w' hk))
    | _ => exact h.elim
  | iface m m' =>
    cases v with
    | nilIface => exact key (fun w => eqGuard_iface b t x y m m') (fun _ => rfl) (RunsTo.mono (semQ_sound _ (fun v => K v []) w h) (fun v w' hk => hK v _ w' hk))
    | _ => exact h.elim
  | nilIface =>
    cases v with
    | nilIface =>
      cases hn : isNil y with
      | false => simp only [hn, cond_false] at h; exact h.elim
      | true =>
        simp only [hn, cond_true] at h
        exact key (fun w => eqGuard_nil b t x y hn) (fun _ => rfl) (RunsTo.mono (semQ_sound _ (fun v => K v []) w h) (fun v w' hk => hK v _ w' hk))
    | _ => exact h.elim
  | _ => exact h.elim

theorem opF_binOp {b : BinOp} {t yt : TypeId} {x y : Operand} {ty : TypeId} {pos : String} {dst : Option Tmp} {aft : Array Edge} {g : Option (Nat × Bool)} {env : Env} {K : Value → World → Prop} {KP : List PanicEntry → World → Prop}
    (he : ∀ z ∈ (Op.binOp b t x y yt).operands.toList, ∀ v, evalO env z = some v → a.eval z = v)
    (hq : quietOp P (Op.binOp b t x y yt) = false) (h : opF (wpM P) P (Op.binOp b t x y yt) ty env K KP w) (hK : ∀ v w', K v w' → next (a.put dst v) w') :
    Oper.wp P ⟨dst, Op.binOp b t x y yt, ty, pos, aft, g⟩ a w next Q := by
  simp only [opF, hq, cond_false] at h
  cases hx : evalO env x with
  | none => rw [hx] at h; exact h.elim
  | some u =>
  cases hy : evalO env y with
  | none => rw [hx, hy] at h; cases u <;> exact h.elim
  | some v =>
  have ex := he x (by simp [Op.operands]) _ hx
  have ey := he y (by simp [Op.operands]) _ hy
  rw [hx, hy] at h
  have key : ∀ {s : Sem Value}, (∀ w : World, (eqGuard b t x y u v).run P w = .ok () w) → (∀ w : World, (binOp b t u v).run P w = s.run P w) → RunsTo P s w (fun v w' => next (a.put dst v) w') →
      Oper.wp P ⟨dst, Op.binOp b t x y yt, ty, pos, aft, g⟩ a w next Q := by
    intro s hg hb hr
    refine wp_value (s := do eqGuard b t x y u v; binOp b t u v) (by simp [execOp, ex, ey]) ?_
    rw [runsTo_bind]
    refine runsTo_of_run (hg w) ?_
    unfold RunsTo at *
    rw [hb]; exact hr
  cases u with
  | pointer m =>
    cases v with
    | pointer n =>
      cases b with
      | eql =>
        refine key (s := eqV t (.pointer m) (.pointer n)) (fun w => eqGuard_ptr _ t x y m n) (fun _ => rfl) (RunsTo.mono h ?_)
        rintro v w' ⟨r, rfl, hk⟩; exact hK _ _ hk
      | neq =>
        refine key (s := do let r ← Op.equal t (.pointer m) (.pointer n); pure (Value.bool (!r))) (fun w => eqGuard_ptr _ t x y m n) (fun _ => rfl) ?_
        have h' : RunsTo P (eqV t (.pointer m) (.pointer n)) w fun v w' => ∃ r : Bool, v = Value.bool r ∧ K (Value.bool (!r)) w' := h
        simp only [eqV, runsTo_bind, runsTo_pure] at h' ⊢
        refine RunsTo.mono h' ?_
        rintro v w' ⟨r, hr, hk⟩
        obtain rfl : v = r := by simpa using hr
        exact hK _ _ hk
      | _ => exact h.elim
    | _ => exact h.elim
  | agg m =>
    cases v with
    | agg n =>
      cases hgt : P.eqGuardType P.depth t with
      | true => simp only [hgt, cond_true] at h; exact h.elim
      | false =>
      simp only [hgt, cond_false] at h
      cases b with
      | eql =>
        refine key (s := eqV t (.agg m) (.agg n)) (fun w => eqGuard_agg _ t x y m n hgt) (fun _ => rfl) (RunsTo.mono h ?_)
        rintro v w' ⟨r, rfl, hk⟩; exact hK _ _ hk
      | neq =>
        refine key (s := do let r ← Op.equal t (.agg m) (.agg n); pure (Value.bool (!r))) (fun w => eqGuard_agg _ t x y m n hgt) (fun _ => rfl) ?_
        have h' : RunsTo P (eqV t (.agg m) (.agg n)) w fun v w' => ∃ r : Bool, v = Value.bool r ∧ K (Value.bool (!r)) w' := h
        simp only [eqV, runsTo_bind, runsTo_pure] at h' ⊢
        refine RunsTo.mono h' ?_
        rintro v w' ⟨r, hr, hk⟩
        obtain rfl : v = r := by simpa using hr
        exact hK _ _ hk
      | _ => exact h.elim
    | _ => exact h.elim
  | _ => exact h.elim

theorem callFunc_callable {f : FuncId} {args : Array Value} (h : callable P f = true) : (callFunc f args).run P w = .ok (.enter f args) w := by
  unfold callable at h
  cases hf : P.funcs[f]? with
  | none => rw [hf] at h; cases h
  | some fn =>
    rw [hf] at h
    simp only [Bool.and_eq_true, Bool.not_eq_true'] at h
    obtain ⟨h1, h2⟩ := h
    have hb : fn.body.isNone = false := by cases hb : fn.body <;> simp_all
    simp only [callFunc, Sem.run_bind, run_program, Result.andThen_ok, hf, h1, hb, Bool.false_eq_true, if_false, Sem.run_pure]

theorem opQ_call {c : Call} {ty : TypeId} {pos : String} {dst : Option Tmp} {aft : Array Edge} {g : Option (Nat × Bool)} {env : Env} {K : Value → List (Addr × List Value) → World → Prop}
    (he : ∀ z ∈ (Op.call c).operands.toList, ∀ v, evalO env z = some v → a.eval z = v)
    (h : opQ (wpM P) P (Op.call c) ty env K w) (hK : ∀ v fs w', K v fs w' → next (a.put dst v) w') :
    Oper.wp P ⟨dst, Op.call c, ty, pos, aft, g⟩ a w next Q := by
  simp only [opQ] at h
  obtain ⟨callee, cargs, argTypes⟩ := c
  cases hargs : evalL env cargs.toList with
  | none => rw [hargs] at h; exact h.elim
  | some args =>
  rw [hargs] at h
  have hm0 : cargs.toList.map a.eval = args := by
    refine evalL_el hargs fun x hx => he x ?_
    have : x ∈ cargs := by simpa using hx
    cases callee <;> simp [Op.operands, Call.operands, this]
  have hm : cargs.map a.eval = args.toArray := Array.toList_inj.1 (by rw [Array.toList_map]; exact hm0)
  cases callee with
  | invoke r m => exact h.elim
  | value f => exact h.elim
  | builtin b =>
    have mk : ∀ {s : Sem Value}, builtin b argTypes ty (cargs.map fun | .const _ => true | _ => false) args.toArray = (do pure (.value (← s))) → RunsTo P s w (fun v w' => next (a.put dst v) w') →
        Oper.wp P ⟨dst, Op.call ⟨.builtin b, cargs, argTypes⟩, ty, pos, aft, g⟩ a w next Q := by
      intro s hb hr
      refine wp_value (s := s) ?_ hr
      have e : (execOp a.eval ⟨dst, Op.call ⟨.builtin b, cargs, argTypes⟩, ty, pos, aft, g⟩) = builtin b argTypes ty (cargs.map fun | .const _ => true | _ => false) (cargs.map a.eval) := rfl
      rw [e, hm, hb]
    cases b with
    | len =>
      cases args with
      | nil => exact h.elim
      | cons v rest =>
      cases rest with
      | cons _ _ => cases v <;> exact h.elim
      | nil =>
      cases v with
      | slice q n cp =>
        cases ha : (argTypes[0]?).bind P.underlying with
        | none => simp only [ha] at h; exact h.elim
        | some d =>
        cases d with
        | slice e =>
          simp only [ha] at h
          obtain ⟨t, ht, hu⟩ := Option.bind_eq_some_iff.1 ha
          refine mk (s := Builtin.len_ argTypes ty #[.slice q n cp]) rfl ?_
          simp only [Builtin.len_, ht]
          have : (#[Value.slice q n cp])[0]? = some (.slice q n cp) := rfl
          rw [this]
          simp only [runsTo_bind]
          exact runsTo_of_run (run_underlying_some hu) (runsTo_pure.2 (hK _ _ _ h))
        | _ => simp only [ha] at h; exact h.elim
      | _ => exact h.elim
    | min => exact mk (s := Builtin.min_ argTypes ty args.toArray) rfl (RunsTo.mono (semQ_sound _ (fun v => K v []) w h) (fun v w' hk => hK v _ w' hk))
    | max => exact mk (s := Builtin.max_ argTypes ty args.toArray) rfl (RunsTo.mono (semQ_sound _ (fun v => K v []) w h) (fun v w' hk => hK v _ w' hk))
    | _ => exact h.elim

theorem opF_call {c : Call} {ty : TypeId} {pos : String} {dst : Option Tmp} {aft : Array Edge} {g : Option (Nat × Bool)} {env : Env} {K : Value → World → Prop} {KP : List PanicEntry → World → Prop}
    (he : ∀ z ∈ (Op.call c).operands.toList, ∀ v, evalO env z = some v → a.eval z = v)
    (hq : quietOp P (Op.call c) = false) (h : opF (wpM P) P (Op.call c) ty env K KP w) (hK : ∀ v w', K v w' → next (a.put dst v) w') (hKP : ∀ c w', KP c w' → Q (.panic c) a w') :
    Oper.wp P ⟨dst, Op.call c, ty, pos, aft, g⟩ a w next Q := by
  simp only [opF, hq, cond_false] at h
  obtain ⟨callee, cargs, argTypes⟩ := c
  cases hargs : evalL env cargs.toList with
  | none => rw [hargs] at h; exact h.elim
  | some args =>
  rw [hargs] at h
  have hm0 : cargs.toList.map a.eval = args := by
    refine evalL_el hargs fun x hx => he x ?_
    have : x ∈ cargs := by simpa using hx
    cases callee <;> simp [Op.operands, Call.operands, this]
  have hm : cargs.map a.eval = args.toArray := Array.toList_inj.1 (by rw [Array.toList_map]; exact hm0)
  cases callee with
  | invoke r m => exact h.elim
  | value f =>
    cases hf : evalO env f with
    | none => simp only [hf] at h; exact h.elim
    | some fv =>
    have ef := he f (by simp [Op.operands, Call.operands]) _ hf
    cases fv with
    | func fn first captured =>
      cases fn with
      | func g' =>
        simp only [hf] at h
        cases hc : callable P g' with
        | false => rw [hc] at h; exact h.elim
        | true =>
        rw [hc] at h
        simp only [cond_true] at h
        cases hs : (P.funcs[g']?).bind fun fn => shpsIn P fn.resultTypes.toList with
        | none => rw [hs] at h; exact h.elim
        | some ss =>
        rw [hs] at h
        have h' : Calls P g' (first.toList ++ args ++ captured.toList).toArray w fun
          | .returned v, w' => ∃ r : Tup ss, v = Tup.result ss r ∧ K (Tup.result ss r) w'
          | .panicked c, w' => KP c w'
          | .outgrown, _ => False := h
        have earr : (first.toList ++ args ++ captured.toList).toArray = first ++ args.toArray ++ captured := by
          apply Array.toList_inj.1; simp
        rw [earr] at h'
        unfold Oper.wp
        have hx : (execOp a.eval ⟨dst, Op.call ⟨.value f, cargs, argTypes⟩, ty, pos, aft, g⟩).run P w = .ok (.enter g' (first ++ args.toArray ++ captured)) w := by
          simp [execOp, resolve, Deferred.ofValue, invoke, ef, hm, callFunc_callable hc]
        rw [hx]
        refine h'.mono ?_
        rintro e w' hr
        cases e with
        | returned v => obtain ⟨r, rfl, hk⟩ := hr; exact hK _ _ hk
        | panicked c => exact hKP _ _ hr
        | outgrown => exact hr.elim
      | _ => simp only [hf] at h; exact h.elim
    | _ => simp only [hf] at h; exact h.elim
  | builtin b =>
    have mk : ∀ {s : Sem Value}, builtin b argTypes ty (cargs.map fun | .const _ => true | _ => false) args.toArray = (do pure (.value (← s))) → RunsTo P s w (fun v w' => next (a.put dst v) w') →
        Oper.wp P ⟨dst, Op.call ⟨.builtin b, cargs, argTypes⟩, ty, pos, aft, g⟩ a w next Q := by
      intro s hb hr
      refine wp_value (s := s) ?_ hr
      have e : (execOp a.eval ⟨dst, Op.call ⟨.builtin b, cargs, argTypes⟩, ty, pos, aft, g⟩) = builtin b argTypes ty (cargs.map fun | .const _ => true | _ => false) (cargs.map a.eval) := rfl
      rw [e, hm, hb]
    cases b with
    | append =>
      refine mk (s := Builtin.append_ argTypes ty args.toArray) rfl (RunsTo.mono h ?_)
      rintro v w' ⟨r, rfl, hk⟩; exact hK _ _ hk
    | copy =>
      refine mk (s := Builtin.copy_ argTypes ty args.toArray) rfl (RunsTo.mono h ?_)
      rintro v w' ⟨r, rfl, hk⟩; exact hK _ _ hk
    | clear =>
      refine mk (s := Builtin.clear_ argTypes ty args.toArray) rfl (RunsTo.mono h ?_)
      rintro v w' ⟨r, rfl, hk⟩; exact hK _ _ hk
    | _ => exact h.elim

set_option maxHeartbeats 1000000 in
/-- What the evaluator says of an operation that leaves the memory as it is, the model's operation does. -/
theorem opQ_value {op : Op} {ty : TypeId} {pos : String} {dst : Option Tmp} {aft : Array Edge} {g : Option (Nat × Bool)} {env : Env} {K : Value → List (Addr × List Value) → World → Prop}
    (he : ∀ x ∈ op.operands.toList, ∀ v, evalO env x = some v → a.eval x = v)
    (h : opQ (wpM P) P op ty env K w) (hK : ∀ v fs w', K v fs w' → next (a.put dst v) w') :
    Oper.wp P ⟨dst, op, ty, pos, aft, g⟩ a w next Q := by
  cases op with
  | move x =>
    obtain ⟨u, hu, hk⟩ := wV_el h
    exact wp_pure (by simp [execOp, he x (by simp [Op.operands]) u hu]) (hK _ _ _ hk)
  | assign x =>
    obtain ⟨u, hu, hk⟩ := wV_el h
    exact wp_pure (by simp [execOp, he x (by simp [Op.operands]) u hu]) (hK _ _ _ hk)
  | pick c x y =>
    simp only [opQ] at h
    cases hc : evalO env c with
    | none => rw [hc] at h; exact h.elim
    | some u =>
      rw [hc] at h
      have ec := he c (by simp [Op.operands]) _ hc
      cases u with
      | bool t =>
        cases t with
        | true =>
          obtain ⟨v, hv, h⟩ := wV_el h
          exact wp_pure (by simp [execOp, ec, asBool, he x (by simp [Op.operands]) _ hv]) (hK _ _ _ h)
        | false =>
          obtain ⟨v, hv, h⟩ := wV_el h
          exact wp_pure (by simp [execOp, ec, asBool, he y (by simp [Op.operands]) _ hv]) (hK _ _ _ h)
      | _ => exact h.elim
  | build t parts =>
    simp only [opQ] at h
    cases hvs : evalL env (parts.toList.map (·.2)) with
    | none => rw [hvs] at h; exact h.elim
    | some vs =>
      rw [hvs] at h
      have hm := evalL_el (a := a) hvs (fun x hx => he x (by simpa [Op.operands] using hx))
      have h' : semQ (wpM P) P (Instr.build t ((parts.toList.map (·.1)).zip vs).toArray) (fun v => K v []) w := h
      refine wp_value (s := Instr.build t ((parts.toList.map (·.1)).zip vs).toArray) ?_ (RunsTo.mono (semQ_sound _ (fun v => K v []) w h') (fun v w' hk => hK v _ w' hk))
      rw [zip_eval hm, Array.toArray_toList]; rfl
  | load t x =>
    obtain ⟨p, hp, h⟩ := wPtr_el h
    obtain ⟨ad, rfl, h⟩ := dr_el h
    refine wp_value (s := Instr.loadAt t (.pointer (some ad))) (by simp [execOp, he x (by simp [Op.operands]) _ hp]) ?_
    simp only [Instr.loadAt, Instr.sureAddr, loadVar, runsTo_bind, runsTo_pure]
    cases hs : shpIn P t with
    | none => rw [hs] at h; exact h.elim
    | some s =>
      rw [hs] at h
      cases hg : aggIn P t with
      | none => rw [hg] at h; cases s <;> exact h.elim
      | some b =>
        rw [hg] at h
        cases s with
        | one k =>
          cases b with
          | true => exact h.elim
          | false =>
            obtain ⟨v, hr, hk⟩ := h
            refine runsTo_of_run (run_isAgg_some hg) ?_
            refine runsTo_of_run (run_load_some ?_) (hK _ _ _ hk)
            have := hr 0 _ rfl
            rwa [add_zero'] at this
        | agg ks =>
          cases b with
          | false => exact h.elim
          | true =>
            cases hz : sizeIn P t with
            | none => simp only [hz, cond_false] at h; exact h.elim
            | some n =>
              simp only [hz] at h
              cases hb : Nat.beq n ks.length with
              | false => rw [hb] at h; exact h.elim
              | true =>
                rw [hb] at h
                obtain rfl := Nat.eq_of_beq_eq_true hb
                obtain ⟨v, hr, hk⟩ := h
                refine runsTo_of_run (run_isAgg_some hg) ?_
                simp only [if_true, runsTo_bind, runsTo_pure]
                refine runsTo_of_run (run_sizeOf_some hz) ?_
                have := run_loadCells (P := P) (w := w) (x := ad) hr
                simp only [Shp.cells, Row.vals_length] at this
                exact runsTo_of_run this (hK _ _ _ hk)
  | nilCheck x =>
    obtain ⟨p, hp, h⟩ := wPtr_el h
    obtain ⟨ad, rfl, h⟩ := dr_el h
    exact wp_pure (by simp [execOp, he x (by simp [Op.operands]) _ hp]) (hK _ _ _ h)
  | unOp u t x =>
    obtain ⟨v, hv, h⟩ := wV_el h
    exact wp_value (s := Op.unary u v) (by simp [execOp, he x (by simp [Op.operands]) _ hv]) (RunsTo.mono (semQ_sound _ (fun v => K v []) w h) (fun v w' hk => hK v _ w' hk))
  | convert src d x =>
    obtain ⟨v, hv, h⟩ := wV_el h
    exact wp_value (s := convert src d v) (by simp [execOp, he x (by simp [Op.operands]) _ hv]) (RunsTo.mono (semQ_sound _ (fun v => K v []) w h) (fun v w' hk => hK v _ w' hk))
  | makeInterface t x =>
    obtain ⟨v, hv, h⟩ := wV_el h
    exact wp_value (s := Instr.makeInterface t v) (by simp [execOp, he x (by simp [Op.operands]) _ hv]) (RunsTo.mono (semQ_sound _ (fun v => K v []) w h) (fun v w' hk => hK v _ w' hk))
  | field t x f =>
    obtain ⟨v, hv, h⟩ := wV_el h
    exact wp_value (s := Instr.field t v f) (by simp [execOp, he x (by simp [Op.operands]) _ hv]) (RunsTo.mono (semQ_sound _ (fun v => K v []) w h) (fun v w' hk => hK v _ w' hk))
  | typeAssert x t u ok =>
    obtain ⟨v, hv, h⟩ := wV_el h
    exact wp_value (s := Instr.typeAssert v t u ok) (by simp [execOp, he x (by simp [Op.operands]) _ hv]) (RunsTo.mono (semQ_sound _ (fun v => K v []) w h) (fun v w' hk => hK v _ w' hk))
  | extract x i =>
    obtain ⟨v, hv, h⟩ := wV_el h
    exact wp_value (s := Instr.extract v i) (by simp [execOp, he x (by simp [Op.operands]) _ hv]) (RunsTo.mono (semQ_sound _ (fun v => K v []) w h) (fun v w' hk => hK v _ w' hk))
  | makeFunc fn first captured =>
    simp only [opQ] at h
    cases hu : evalL env first.toList with
    | none => rw [hu] at h; exact h.elim
    | some u =>
      cases hv : evalL env captured.toList with
      | none => rw [hu, hv] at h; exact h.elim
      | some v =>
        rw [hu, hv] at h
        have h1 := evalL_el (a := a) hu (fun x hx => he x (show x ∈ (first ++ captured).toList from by rw [Array.toList_append]; exact List.mem_append_left _ hx))
        have h2 := evalL_el (a := a) hv (fun x hx => he x (show x ∈ (first ++ captured).toList from by rw [Array.toList_append]; exact List.mem_append_right _ hx))
        refine wp_pure ?_ (hK _ _ _ h)
        have e1 : first.map a.eval = u.toArray := Array.toList_inj.1 (by rw [Array.toList_map]; exact h1)
        have e2 : captured.map a.eval = v.toArray := Array.toList_inj.1 (by rw [Array.toList_map]; exact h2)
        simp [execOp, Instr.makeFunc, e1, e2]
  | slice t x lo hi mx => exact opQ_slice (env := env) he h hK
  | fieldAddr t x f => exact opQ_fieldAddr (env := env) he h hK
  | indexAddr t x i => exact opQ_indexAddr (env := env) he h hK
  | index t x i => exact opQ_index (env := env) he h hK
  | binOp b t x y yt => exact opQ_binOp (env := env) he h hK
  | call c => exact opQ_call (env := env) he h hK
  | _ => exact h.elim

set_option maxHeartbeats 1000000 in
/-- What the evaluator says of an operation, the model's operation does. -/
theorem opF_value {op : Op} {ty : TypeId} {pos : String} {dst : Option Tmp} {aft : Array Edge} {g : Option (Nat × Bool)} {env : Env} {K : Value → World → Prop} {KP : List PanicEntry → World → Prop}
    (he : ∀ x ∈ op.operands.toList, ∀ v, evalO env x = some v → a.eval x = v)
    (h : opF (wpM P) P op ty env K KP w) (hK : ∀ v w', K v w' → next (a.put dst v) w') (hKP : ∀ c w', KP c w' → Q (.panic c) a w') :
    Oper.wp P ⟨dst, op, ty, pos, aft, g⟩ a w next Q := by
  cases hq : quietOp P op with
  | true =>
    have h' : opQ (wpM P) P op ty env (fun v _ => K v) w := by simpa only [opF, hq, cond_true] using h
    exact opQ_value he h' fun v _ w' hk => hK v w' hk
  | false =>
  cases op with
  | alloc e =>
    simp only [opF, hq, cond_false] at h
    obtain ⟨z, hz, hk⟩ := wV_el h
    refine wp_value rfl ?_
    simp only [Instr.alloc]
    rw [runsTo_bind]
    refine runsTo_of_run (run_zero_some hz) ?_
    have hk' : K (.pointer (some ⟨w.heap.size, 0, none⟩)) (w.alloc (.cells z.cells.toList.toArray e)) := hk
    rw [Array.toArray_toList] at hk'
    simp only [newVar, newRow, runsTo_bind, runsTo_pure]
    exact runsTo_of_run (run_newObj P w _) (hK _ _ hk')
  | box e x =>
    simp only [opF, hq, cond_false] at h
    obtain ⟨z, hz, hk⟩ := wV_el h
    refine wp_value (s := Instr.box e z) (by simp [execOp, he x (by simp [Op.operands]) z hz]) ?_
    have hk' : K (.pointer (some ⟨w.heap.size, 0, none⟩)) (w.alloc (.cells z.cells.toList.toArray e)) := hk
    rw [Array.toArray_toList] at hk'
    simp only [Instr.box, newVar, newRow, runsTo_bind, runsTo_pure]
    exact runsTo_of_run (run_newObj P w _) (hK _ _ hk')
  | buildSlice t n parts =>
    simp only [opF, hq, cond_false] at h
    cases hvs : evalL env (parts.toList.map (·.2)) with
    | none => rw [hvs] at h; exact h.elim
    | some vs =>
      rw [hvs] at h
      have hm := evalL_el (a := a) hvs (fun x hx => he x (by simpa [Op.operands] using hx))
      have h' : semF (wpM P) P (Instr.buildSlice t n ((parts.toList.map (·.1)).zip vs).toArray) K w := h
      refine wp_value (s := Instr.buildSlice t n ((parts.toList.map (·.1)).zip vs).toArray) ?_ (RunsTo.mono (semF_sound _ K w h') hK)
      rw [zip_eval hm, Array.toArray_toList]; rfl
  | store t x v =>
    simp only [opF, hq, cond_false] at h
    obtain ⟨p, hp, h⟩ := wPtr_el h
    obtain ⟨ad, rfl, h⟩ := dr_el h
    obtain ⟨u, hu, h⟩ := wV_el h
    cases hz : sizeIn P t with
    | none => simp only [hz, cond_false] at h; exact h.elim
    | some n =>
      simp only [hz] at h
      cases hb : Nat.beq n u.cells.size with
      | false => rw [hb] at h; exact h.elim
      | true =>
        rw [hb] at h
        obtain rfl := Nat.eq_of_beq_eq_true hb
        refine wp_unit (s := Instr.storeAt t (.pointer (some ad)) u) (by simp [execOp, he x (by simp [Op.operands]) _ hp, he v (by simp [Op.operands]) _ hu]) ?_
        simp only [Instr.storeAt, Instr.sureAddr, storeVar, runsTo_bind, runsTo_pure]
        refine runsTo_of_run (run_sizeOf_some hz) ?_
        simp only [ne_eq, not_true_eq_false, if_false]
        exact RunsTo.mono h fun _ _ hk => hK _ _ hk
  | makeSlice t l c =>
    simp only [opF, hq, cond_false] at h
    obtain ⟨kl, l', hl, h⟩ := wInt_el h
    obtain ⟨kc, c', hc, h⟩ := wInt_el h
    refine wp_value (s := Instr.makeSlice t (.int kl l') (.int kc c')) (by simp [execOp, he l (by simp [Op.operands]) _ hl, he c (by simp [Op.operands]) _ hc]) ?_
    refine RunsTo.mono h ?_
    rintro v w' ⟨x, rfl, hk⟩
    exact hK _ _ hk
  | panic x =>
    simp only [opF, hq, cond_false] at h
    obtain ⟨v, hv, h⟩ := wV_el h
    cases v with
    | iface t u =>
      have hx : (execOp a.eval ⟨dst, Op.panic x, ty, pos, aft, g⟩).run P w = .halt (.panic (.iface t u)) w := by
        simp [execOp, he x (by simp [Op.operands]) _ hv, Instr.panic]
      unfold Oper.wp
      rw [hx]
      exact hKP _ _ h
    | _ => exact h.elim
  | binOp b t x y yt => exact opF_binOp (env := env) he hq h hK
  | call c => exact opF_call (env := env) he hq h hK hKP
  | _ => simp only [opF, hq, cond_false] at h; exact h.elim

/-! ## An operation that leaves the memory as it is comes to one value wherever what it read reads alike -/

def Facts (fs : List (Addr × List Value)) (w : World) : Prop := ∀ x ∈ fs, rowAt w x.1 x.2

def Qt (F : (Value → List (Addr × List Value) → World → Prop) → World → Prop) : Prop :=
  ∀ K w, F K w → ∃ v fs, Facts fs w ∧ K v fs w ∧ ∀ K' w', Facts fs w' → K' v fs w' → F K' w'

theorem Facts.nil (w : World) : Facts [] w := fun _ h => by cases h

theorem Qt.pure (v : Value) : Qt fun K => K v [] := fun _ w h => ⟨v, [], Facts.nil w, h, fun _ _ _ hk => hk⟩
theorem Qt.fail {P : Program} : Qt fun _ => (wpM P).fail := fun _ _ h => h.elim
theorem Qt.guard {P : Program} {p : Prop} {F : (Value → List (Addr × List Value) → World → Prop) → World → Prop} (h : Qt F) : Qt fun K => (wpM P).guard p (F K) := by
  rintro K w ⟨hp, hf⟩
  obtain ⟨v, fs, h1, h2, h3⟩ := h K w hf
  exact ⟨v, fs, h1, h2, fun K' w' a b => ⟨hp, h3 K' w' a b⟩⟩
theorem Qt.deref {P : Program} {p : Option Addr} {F : (Value → List (Addr × List Value) → World → Prop) → Addr → World → Prop} (h : ∀ a, Qt fun K => F K a) : Qt fun K => dr (wpM P).fail p (F K) := by
  cases p with
  | none => exact Qt.fail
  | some a => exact h a
theorem Qt.index {P : Program} {k : Kind} {cs : List Value} {i : Int} {F : (Value → List (Addr × List Value) → World → Prop) → k.T → World → Prop} (h : ∀ x, Qt fun K => F K x) : Qt fun K => (wpM P).index k cs i (F K) := by
  rintro K w ⟨x, h0, hx, hf⟩
  obtain ⟨v, fs, h1, h2, h3⟩ := h x K w hf
  exact ⟨v, fs, h1, h2, fun K' w' a b => ⟨x, h0, hx, h3 K' w' a b⟩⟩
theorem Qt.load {P : Program} {s : Shp} {a : Addr} {f : s.T → Value} : Qt fun K => (wpM P).load s a fun x => K (f x) [(a, s.cells x)] := by
  rintro K w ⟨x, hr, hf⟩
  refine ⟨f x, [(a, s.cells x)], fun y hy => ?_, hf, fun K' w' ha hk => ⟨x, ha _ (List.mem_singleton.2 rfl), hk⟩⟩
  obtain rfl := List.mem_singleton.1 hy
  exact hr
theorem Qt.semQ {P : Program} {s : Sem Value} : Qt fun K => semQ (wpM P) P s fun v => K v [] := by
  intro K w h
  obtain ⟨v, hk, h'⟩ := semQ_value s _ w h
  exact ⟨v, [], Facts.nil w, hk, fun K' w' _ hk' => h' _ w' hk'⟩
theorem Qt.wV {P : Program} {v : Option Value} {F : (Value → List (Addr × List Value) → World → Prop) → Value → World → Prop} (h : ∀ x, Qt fun K => F K x) : Qt fun K => wV (wpM P) v (F K) := by
  cases v with
  | none => exact Qt.fail
  | some x => exact h x
theorem Qt.wPtr {P : Program} {v : Option Value} {F : (Value → List (Addr × List Value) → World → Prop) → Option Addr → World → Prop} (h : ∀ x, Qt fun K => F K x) : Qt fun K => wPtr (wpM P) v (F K) := by
  intro K w hw
  obtain ⟨p, rfl, _⟩ := wPtr_el hw
  exact h p K w hw
theorem Qt.wInt {P : Program} {v : Option Value} {F : (Value → List (Addr × List Value) → World → Prop) → IntKind → Int → World → Prop} (h : ∀ k x, Qt fun K => F K k x) : Qt fun K => wInt (wpM P) v (F K) := by
  intro K w hw
  obtain ⟨k, n, rfl, _⟩ := wInt_el hw
  exact h k n K w hw
theorem Qt.wSl {P : Program} {v : Option Value} {F : (Value → List (Addr × List Value) → World → Prop) → Sl → World → Prop} (h : ∀ s, Qt fun K => F K s) : Qt fun K => wSl (wpM P) v (F K) := by
  intro K w hw
  obtain ⟨s, rfl, _⟩ := wSl_el hw
  exact h ⟨s.base, s.len, s.cap⟩ K w hw
theorem Qt.wBool {P : Program} {v : Option Value} {F : (Value → List (Addr × List Value) → World → Prop) → Bool → World → Prop} (h : ∀ s, Qt fun K => F K s) : Qt fun K => wBool (wpM P) v (F K) := by
  intro K w hw
  cases v with
  | none => exact hw.elim
  | some x => cases x <;> first | exact h _ K w hw | exact hw.elim
theorem Qt.cond {b : Bool} {F G : (Value → List (Addr × List Value) → World → Prop) → World → Prop} (h1 : Qt F) (h2 : Qt G) : Qt fun K => bif b then F K else G K := by
  cases b
  · exact h2
  · exact h1

theorem opQ_qt (P : Program) (op : Op) (ty : TypeId) (env : Env) : Qt (opQ (wpM P) P op ty env) := by
  cases op with
  | move x => exact Qt.wV fun v => Qt.pure v
  | assign x => exact Qt.wV fun v => Qt.pure v
  | pick c a b => exact Qt.wBool fun t => Qt.cond (Qt.wV fun v => Qt.pure v) (Qt.wV fun v => Qt.pure v)
  | unOp u t x => exact Qt.wV fun v => Qt.semQ
  | convert u t x => exact Qt.wV fun v => Qt.semQ
  | makeInterface t x => exact Qt.wV fun v => Qt.semQ
  | field t x f => exact Qt.wV fun v => Qt.semQ
  | typeAssert x t u ok => exact Qt.wV fun v => Qt.semQ
  | extract x i => exact Qt.wV fun v => Qt.semQ
  | nilCheck x => exact Qt.wPtr fun p => Qt.deref fun a => Qt.pure _
  | build t parts =>
    unfold opQ; dsimp only
    cases evalL env (parts.toList.map (·.2)) with
    | none => exact Qt.fail
    | some vs => exact Qt.semQ
  | load t x =>
    refine Qt.wPtr fun p => Qt.deref fun a => ?_
    cases shpIn P t with
    | none => exact Qt.fail
    | some s =>
      cases aggIn P t with
      | none => cases s <;> exact Qt.fail
      | some b =>
        cases s with
        | one k => cases b with
          | true => exact Qt.fail
          | false => exact Qt.load (s := .one k) (f := k.inj)
        | agg ks => cases b with
          | false => exact Qt.fail
          | true => exact Qt.cond (Qt.load (s := .agg ks) (f := Shp.inj (.agg ks))) Qt.fail
  | makeFunc fn first captured =>
    unfold opQ; dsimp only
    cases evalL env first.toList with
    | none => exact Qt.fail
    | some u => cases evalL env captured.toList with
      | none => exact Qt.fail
      | some v => exact Qt.pure _
  | fieldAddr t x f =>
    refine Qt.wPtr fun p => Qt.deref fun a => ?_
    cases P.underlying t with
    | none => exact Qt.fail
    | some d =>
      cases d with
      | struct fs => dsimp only; cases fs[f]? with
        | none => exact Qt.fail
        | some fd => exact Qt.cond (Qt.pure _) Qt.fail
      | _ => exact Qt.fail
  | indexAddr t x i =>
    refine Qt.wInt fun k n => ?_
    cases P.underlying t with
    | none => exact Qt.fail
    | some d =>
      cases d with
      | slice e => refine Qt.wSl fun s => ?_; cases sizeIn P e with
        | none => exact Qt.fail
        | some z => exact Qt.guard (Qt.deref fun a => Qt.pure _)
      | array n e => refine Qt.wPtr fun p => Qt.deref fun a => ?_; cases sizeIn P e with
        | none => exact Qt.fail
        | some z => exact Qt.guard (Qt.pure _)
      | _ => exact Qt.fail
  | index t x i =>
    refine Qt.wInt fun k n => ?_
    cases P.underlying t with
    | none => exact Qt.fail
    | some d =>
      cases evalO env x with
      | none => cases d <;> exact Qt.fail
      | some v =>
        cases d with
        | array m e => cases v with
          | agg cs => dsimp only; cases zeroOf P e with
            | none => exact Qt.fail
            | some z => exact Qt.cond Qt.fail (Qt.index fun x => Qt.pure _)
          | _ => exact Qt.fail
        | _ => cases v <;> exact Qt.fail
  | slice t x lo hi mx =>
    unfold opQ; dsimp only
    cases optV env lo with
    | none => exact Qt.fail
    | some lo => cases optV env hi with
      | none => exact Qt.fail
      | some hi => cases optV env mx with
        | none => exact Qt.fail
        | some mx =>
          refine Qt.cond Qt.fail ?_
          cases P.underlying t with
          | none => exact Qt.fail
          | some d => cases d with
            | slice e =>
              refine Qt.wSl fun s => ?_
              cases intOr 0 lo with
              | none => exact Qt.fail
              | some l => cases intOr s.len hi with
                | none => exact Qt.fail
                | some h => cases intOr s.cap mx with
                  | none => exact Qt.fail
                  | some m => cases sizeIn P e with
                    | none => exact Qt.fail
                    | some z => exact Qt.guard (Qt.pure _)
            | array n e =>
              refine Qt.wPtr fun p => Qt.deref fun a => ?_
              cases intOr 0 lo with
              | none => exact Qt.fail
              | some l => cases intOr n hi with
                | none => exact Qt.fail
                | some h => cases intOr n mx with
                  | none => exact Qt.fail
                  | some m => cases sizeIn P e with
                    | none => exact Qt.fail
                    | some z => exact Qt.guard (Qt.pure _)
            | _ => exact Qt.fail
  | binOp b t x y yt =>
    unfold opQ; dsimp only
    cases evalO env x with
    | none => exact Qt.fail
    | some u => cases evalO env y with
      | none => cases u <;> exact Qt.fail
      | some v => cases u with
        | int k m => cases v with
          | int k' n => cases b with
            | shl => exact Qt.cond (Qt.pure _) (Qt.guard (Qt.pure _))
            | shr => exact Qt.cond (Qt.pure _) (Qt.guard (Qt.pure _))
            | quo => exact Qt.cond (Qt.cond (Qt.pure _) (Qt.guard (Qt.pure _))) Qt.fail
            | rem => exact Qt.cond (Qt.cond (Qt.pure _) (Qt.guard (Qt.pure _))) Qt.fail
            | _ => exact Qt.semQ
          | _ => exact Qt.fail
        | bool m => cases v with
          | bool n => exact Qt.semQ
          | _ => exact Qt.fail
        | iface m m' => cases v with
          | nilIface => exact Qt.semQ
          | _ => exact Qt.fail
        | nilIface => cases v with
          | nilIface => exact Qt.cond Qt.semQ Qt.fail
          | _ => exact Qt.fail
        | _ => exact Qt.fail
  | call c =>
    unfold opQ; dsimp only
    obtain ⟨callee, cargs, argTypes⟩ := c
    cases evalL env cargs.toList with
    | none => exact Qt.fail
    | some args => cases callee with
      | builtin b => cases b with
        | len => cases args with
          | nil => exact Qt.fail
          | cons v rest => cases rest with
            | cons _ _ => cases v <;> exact Qt.fail
            | nil => cases v with
              | slice q n cp => cases (argTypes[0]?).bind P.underlying with
                | none => exact Qt.fail
                | some d => cases d with
                  | slice e => exact Qt.pure _
                  | _ => exact Qt.fail
              | _ => exact Qt.fail
        | min => exact Qt.semQ
        | max => exact Qt.semQ
        | _ => exact Qt.fail
      | _ => exact Qt.fail
  | _ => exact Qt.fail

end
end Hl
end Go.Proofs.Ytdmfnlcbfmahhaa
