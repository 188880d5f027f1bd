/- What the functions of the page map do. -/
import Derived.Test.YtdmfnlcbfmahhaaBitsD
import Derived.Test.YtdmfnlcbfmahhaaNfMap
import Derived.DeepKeys
namespace Go.Proofs.Ytdmfnlcbfmahhaa
open Go Hl
set_option maxRecDepth 100000

variable {e : Still} {l r : List HP}

abbrev kPg : List Kind := [kI, kI, kI, kI, kI, kI, kI, kU, kU, kU, kU]
abbrev sPg : Shp := .agg kPg
abbrev Pg : Type := Row kPg

abbrev Pg.kind (p : Pg) : Int := p.1
abbrev Pg.order (p : Pg) : Int := p.2.1
abbrev Pg.cls (p : Pg) : Int := p.2.2.1
abbrev Pg.live (p : Pg) : Int := p.2.2.2.1
abbrev Pg.next (p : Pg) : Int := p.2.2.2.2.1
abbrev Pg.prev (p : Pg) : Int := p.2.2.2.2.2.1
abbrev Pg.first (p : Pg) : Int := p.2.2.2.2.2.2.1
abbrev Pg.b0 (p : Pg) : Int := p.2.2.2.2.2.2.2.1
abbrev Pg.b1 (p : Pg) : Int := p.2.2.2.2.2.2.2.2.1
abbrev Pg.b2 (p : Pg) : Int := p.2.2.2.2.2.2.2.2.2.1
abbrev Pg.b3 (p : Pg) : Int := p.2.2.2.2.2.2.2.2.2.2.1

def pg0 : Pg := (0, 0, 0, 0, 0, 0, 0, 0, 0, 0, 0, ())
def plainPg (z k : Int) : Pg := (z, k, 0, 0, -1, -1, -1, 0, 0, 0, 0, ())

structure FitPg (O : Nat) (p : Pg) : Prop where
  kind0 : 0 ≤ Pg.kind p
  kind4 : Pg.kind p ≤ 4
  order0 : 0 ≤ Pg.order p
  order : Pg.order p ≤ O
  class0 : 0 ≤ Pg.cls p
  class7 : Pg.cls p ≤ 7
  next0 : -1 ≤ Pg.next p
  next : Pg.next p ≤ 1023
  prev0 : -1 ≤ Pg.prev p
  prev : Pg.prev p ≤ 1023
  first0 : -1 ≤ Pg.first p
  first : Pg.first p ≤ 255
  bits0 : 0 ≤ Pg.b0 p ∧ Pg.b0 p < 18446744073709551616
  bits1 : 0 ≤ Pg.b1 p ∧ Pg.b1 p < 18446744073709551616
  bits2 : 0 ≤ Pg.b2 p ∧ Pg.b2 p < 18446744073709551616
  bits3 : 0 ≤ Pg.b3 p ∧ Pg.b3 p < 18446744073709551616
  live0 : -9223372036854775808 ≤ Pg.live p
  live1 : Pg.live p ≤ 9223372036854775807

theorem FitPg.plain {O : Nat} {z k : Int} (h1 : 0 ≤ z) (h2 : z ≤ 4) (h3 : 0 ≤ k) (h4 : k ≤ O) : FitPg O (plainPg z k) := by
  refine ⟨h1, h2, h3, h4, ?_, ?_, ?_, ?_, ?_, ?_, ?_, ?_, ?_, ?_, ?_, ?_, ?_, ?_⟩ <;> simp only [plainPg, Pg.kind, Pg.order, Pg.cls, Pg.live, Pg.next, Pg.prev, Pg.first, Pg.b0, Pg.b1, Pg.b2, Pg.b3] <;> omega

/-- A page map, as numbers. -/
structure Mp where
  order : Nat
  n : Nat
  pages : Nat → Pg
  pairs : Nat → Nat → Bool

structure Mp.Ok (μ : Mp) : Prop where
  order : μ.order ≤ 8
  n : μ.n ≤ 1024
  whole : μ.n % 2 ^ μ.order = 0
  fits : ∀ i, i < μ.n → FitPg μ.order (μ.pages i)

def isMap (m : Nat) (μ : Mp) : HP := ex fun q : Sl × Sl × (Nat → Nat) => all [fact μ.Ok,
  blk m 162 [vI μ.order, .slice q.1.base q.1.len q.1.cap, .slice q.2.1.base q.2.1.len q.2.1.cap],
  arr 57 sPg q.1 (tab μ.n μ.pages), arr 179 sP q.2.1 (tab μ.order fun k => (some ⟨q.2.2 k, 0, none⟩ : Option Addr)),
  each μ.order fun k => isSet (q.2.2 k) (μ.n / 2 ^ (k + 1)) (μ.pairs k)]

theorem sub_map {m : Nat} {ps qs : Sl} {ptrs : Nat → Nat} {l' : List HP} {O n : Nat} {pages : Nat → Pg} {pairs : Nat → Nat → Bool} (μ : Mp) (ok : μ.Ok)
    (h : Sub l (blk m 162 [vI O, .slice ps.base ps.len ps.cap, .slice qs.base qs.len qs.cap] :: arr 57 sPg ps (tab n pages) :: arr 179 sP qs (tab O fun k => (some ⟨ptrs k, 0, none⟩ : Option Addr)) ::
      each O (fun k => isSet (ptrs k) (n / 2 ^ (k + 1)) (pairs k)) :: l')) (e : μ = ⟨O, n, pages, pairs⟩ := by rfl) : Sub l (isMap m μ :: l') := by
  subst e
  exact Sub.ex (ps, qs, ptrs) (Sub.all (Sub.fact ok h))

theorem ent_map {m : Nat} {μ : Mp} {X : World → Prop}
    (h : ∀ (ps qs : Sl) (ptrs : Nat → Nat), μ.Ok → ps.len = μ.n → qs.len = μ.order →
      ent e (blk m 162 [vI μ.order, .slice ps.base ps.len ps.cap, .slice qs.base qs.len qs.cap] :: arr 57 sPg ps (tab μ.n μ.pages) :: arr 179 sP qs (tab μ.order fun k => (some ⟨ptrs k, 0, none⟩ : Option Addr)) ::
        each μ.order (fun k => isSet (ptrs k) (μ.n / 2 ^ (k + 1)) (μ.pairs k)) :: r) X) (k : Take l (isMap m μ) r := by with_reducible first | assumption | ((repeat (first | exact .here | apply Take.there)); done)) : ent e l X := by
  refine ent_ex k fun q => ent_all .here ?_
  refine ent_fact .here fun ok => ?_
  refine ent_len (.there .here) fun h1 => ?_
  refine ent_len (.there (.there .here)) fun h2 => ?_
  rw [tab_len] at h1 h2
  exact h q.1 q.2.1 q.2.2 ok h1 h2

theorem ent_map_ok {m : Nat} {μ : Mp} {X : World → Prop} (h : μ.Ok → ent e l X) (k : Take l (isMap m μ) r := by with_reducible first | assumption | ((repeat (first | exact .here | apply Take.there)); done)) : ent e l X := by
  refine ent_map (fun ps qs ptrs ok _ _ => ?_) k
  exact ent_sub (Sub.trans (sub_map μ ok (by repeat (first | exact Sub.refl | refine Sub.cons (by with_reducible first | assumption | ((repeat (first | exact .here | apply Take.there)); done)) ?_ | refine Sub.drop ?_))) (Sub.untake k)) (h ok)

theorem ent_map_order {m : Nat} {μ : Mp} {K : Int → World → Prop} (h : ent e l (K μ.order)) (k : Take l (isMap m μ) r := by with_reducible first | assumption | ((repeat (first | exact .here | apply Take.there)); done)) : ent e l ((wpM PR).load sI ⟨m, 0, none⟩ K) := by
  refine ent_map (fun ps qs ptrs ok _ _ => ?_) k
  refine ent_load1 (μ.order : Int) .here rfl ?_
  exact ent_sub (Sub.trans (sub_map μ ok (by repeat (first | exact Sub.refl | refine Sub.cons (by with_reducible first | assumption | ((repeat (first | exact .here | apply Take.there)); done)) ?_ | refine Sub.drop ?_))) (Sub.untake k)) h

/-- The length of the pages, read. -/
theorem ent_map_len {m : Nat} {μ : Mp} {K : Sl → World → Prop} (h : ∀ s : Sl, s.len = μ.n → ent e l (K s)) (k : Take l (isMap m μ) r := by with_reducible first | assumption | ((repeat (first | exact .here | apply Take.there)); done)) : ent e l ((wpM PR).load sS ⟨m, 1, none⟩ K) := by
  refine ent_map (fun ps qs ptrs ok hl _ => ?_) k
  refine ent_load1 ps .here rfl ?_
  exact ent_sub (Sub.trans (sub_map μ ok (by repeat (first | exact Sub.refl | refine Sub.cons (by with_reducible first | assumption | ((repeat (first | exact .here | apply Take.there)); done)) ?_ | refine Sub.drop ?_))) (Sub.untake k)) (h ps hl)

/-! ## Pages that are compared -/

theorem page_fields : (PR.fieldsOf 57).toList.map (fun f => (f.type, f.offset)) = [(3, 0), (3, 1), (3, 2), (3, 3), (3, 4), (3, 5), (3, 6), (55, 7)] := by kernel_rfl

def pgLits (a : Pg) : List Lit := [.int .i64 (Pg.kind a), .int .i64 (Pg.order a), .int .i64 (Pg.cls a), .int .i64 (Pg.live a), .int .i64 (Pg.next a), .int .i64 (Pg.prev a), .int .i64 (Pg.first a),
  .int .u64 (Pg.b0 a), .int .u64 (Pg.b1 a), .int .u64 (Pg.b2 a), .int .u64 (Pg.b3 a)]

theorem map8 {A B : Type} {f : A → B} {xs : List A} {a0 a1 a2 a3 a4 a5 a6 a7 : B} (h : xs.map f = [a0, a1, a2, a3, a4, a5, a6, a7]) :
    ∃ q0 q1 q2 q3 q4 q5 q6 q7, xs = [q0, q1, q2, q3, q4, q5, q6, q7] ∧ f q0 = a0 ∧ f q1 = a1 ∧ f q2 = a2 ∧ f q3 = a3 ∧ f q4 = a4 ∧ f q5 = a5 ∧ f q6 = a6 ∧ f q7 = a7 := by
  have hl : xs.length = 8 := by have := congrArg List.length h; simpa using this
  rcases xs with _ | ⟨q0, _ | ⟨q1, _ | ⟨q2, _ | ⟨q3, _ | ⟨q4, _ | ⟨q5, _ | ⟨q6, _ | ⟨q7, _ | ⟨q8, xs⟩⟩⟩⟩⟩⟩⟩⟩⟩ <;> simp at hl
  simp only [List.map_cons, List.map_nil, List.cons.injEq, and_true] at h
  exact ⟨q0, q1, q2, q3, q4, q5, q6, q7, rfl, h⟩

theorem lits_int {d : Nat} {n : Int} (h0 : -9223372036854775808 ≤ n) (h1 : n ≤ 9223372036854775807) : PR.keyLits (d + 1) 3 [vI n] = some [.int .i64 n] := by
  have hu : PR.underlying 3 = some (.int .i64) := by kernel_rfl
  have hw : (Lit.int .i64 n).wf = true := by simp [Lit.wf, IntKind.min, IntKind.max, IntKind.signed, IntKind.bits]; omega
  unfold Program.keyLits
  rw [hu]
  simp [hw]

theorem lits_u64 {d : Nat} {n : Int} (h0 : 0 ≤ n) (h1 : n < 18446744073709551616) : PR.keyLits (d + 1) 22 [vU n] = some [.int .u64 n] := by
  have hu : PR.underlying 22 = some (.int .u64) := by kernel_rfl
  have hw : (Lit.int .u64 n).wf = true := by simp [Lit.wf, IntKind.min, IntKind.max, IntKind.signed, IntKind.bits]; omega
  unfold Program.keyLits
  rw [hu]
  simp [hw]

theorem lits_four {d : Nat} {a b c f : Int} (ha : 0 ≤ a ∧ a < 18446744073709551616) (hb : 0 ≤ b ∧ b < 18446744073709551616) (hc : 0 ≤ c ∧ c < 18446744073709551616) (hf : 0 ≤ f ∧ f < 18446744073709551616) :
    PR.keyLits (d + 1 + 1) 55 [vU a, vU b, vU c, vU f] = some [.int .u64 a, .int .u64 b, .int .u64 c, .int .u64 f] := by
  have hu : PR.underlying 55 = some (.array 4 22) := by kernel_rfl
  have hc1 : PR.cellsOf 55 = 4 := by kernel_rfl
  have hc2 : PR.cellsOf 22 = 1 := by kernel_rfl
  unfold Program.keyLits
  rw [hu]
  simp [hc1, hc2, List.range_succ, lits_u64 ha.1 ha.2, lits_u64 hb.1 hb.2, lits_u64 hc.1 hc.2, lits_u64 hf.1 hf.2]

theorem pg_lits {O : Nat} {a : Pg} (h : FitPg O a) (hO : O ≤ 8) : PR.keyLits 3 57 (Row.vals kPg a) = some (pgLits a) := by
  have hu : PR.underlying 57 = some (.struct (PR.fieldsOf 57)) := by kernel_rfl
  have hc : PR.cellsOf 57 = 11 := by kernel_rfl
  have hci : PR.cellsOf 3 = 1 := by kernel_rfl
  have hc4 : PR.cellsOf 55 = 4 := by kernel_rfl
  have hn : (PR.fieldsOf 57).all (fun f => f.name != "_") = true := by kernel_rfl
  obtain ⟨k1, k2, o1, o2, c1, c2, n1, n2, v1, v2, f1, f2, b0, b1, b2, b3, l1, l2⟩ := h
  unfold Program.keyLits
  rw [hu]
  simp only [Row.vals_length, hc, hn]
  obtain ⟨q0, q1, q2, q3, q4, q5, q6, q7, hl, h0, h1, h2, h3, h4, h5, h6, h7⟩ := map8 page_fields
  simp only [Prod.mk.injEq] at h0 h1 h2 h3 h4 h5 h6 h7
  have i0 : PR.keyLits 2 3 (List.take 1 (List.drop 0 (Row.vals kPg a))) = some [.int .i64 (Pg.kind a)] := lits_int (d := 1) (n := Pg.kind a) (by omega) (by omega)
  have i1 : PR.keyLits 2 3 (List.take 1 (List.drop 1 (Row.vals kPg a))) = some [.int .i64 (Pg.order a)] := lits_int (d := 1) (n := Pg.order a) (by omega) (by omega)
  have i2 : PR.keyLits 2 3 (List.take 1 (List.drop 2 (Row.vals kPg a))) = some [.int .i64 (Pg.cls a)] := lits_int (d := 1) (n := Pg.cls a) (by omega) (by omega)
  have i3 : PR.keyLits 2 3 (List.take 1 (List.drop 3 (Row.vals kPg a))) = some [.int .i64 (Pg.live a)] := lits_int (d := 1) (n := Pg.live a) (by omega) (by omega)
  have i4 : PR.keyLits 2 3 (List.take 1 (List.drop 4 (Row.vals kPg a))) = some [.int .i64 (Pg.next a)] := lits_int (d := 1) (n := Pg.next a) (by omega) (by omega)
  have i5 : PR.keyLits 2 3 (List.take 1 (List.drop 5 (Row.vals kPg a))) = some [.int .i64 (Pg.prev a)] := lits_int (d := 1) (n := Pg.prev a) (by omega) (by omega)
  have i6 : PR.keyLits 2 3 (List.take 1 (List.drop 6 (Row.vals kPg a))) = some [.int .i64 (Pg.first a)] := lits_int (d := 1) (n := Pg.first a) (by omega) (by omega)
  have i7 : PR.keyLits 2 55 (List.take 4 (List.drop 7 (Row.vals kPg a))) = some [.int .u64 (Pg.b0 a), .int .u64 (Pg.b1 a), .int .u64 (Pg.b2 a), .int .u64 (Pg.b3 a)] := lits_four (d := 0) b0 b1 b2 b3
  rw [hl]
  simp only [List.mapM_cons, List.mapM_nil, h0.1, h0.2, h1.1, h1.2, h2.1, h2.2, h3.1, h3.2, h4.1, h4.2, h5.1, h5.2, h6.1, h6.2, h7.1, h7.2, hci, hc4, i0, i1, i2, i3, i4, i5, i6, i7]
  rfl

theorem ent_eqPg {O : Nat} {a b : Pg} {K : Bool → World → Prop} (hO : O ≤ 8) (ha : FitPg O a) (hb : FitPg O b) (h : ∀ t : Bool, (t = true ↔ a = b) → ent e l (K t)) :
    ent e l ((wpM PR).sem (eqV 57 (.agg (Row.vals kPg a).toArray) (.agg (Row.vals kPg b).toArray)) sB K) := by
  intro w hw
  have hk : PR.keyTypeAt 3 57 = true := by kernel_rfl
  obtain ⟨t, ht, hiff⟩ := run_equalIn_deep (P := PR) 9997 3 57 hk w 3 3 (.agg (Row.vals kPg a).toArray) (.agg (Row.vals kPg b).toArray) (pgLits a) (pgLits b) (by kernel_rfl) (by kernel_rfl) (pg_lits ha hO) (pg_lits hb hO)
  have hrun : (eqV 57 (.agg (Row.vals kPg a).toArray) (.agg (Row.vals kPg b).toArray)).run PR w = .ok (.bool t) w := by
    unfold eqV
    rw [Sem.run_bind, show Op.equal 57 (.agg (Row.vals kPg a).toArray) (.agg (Row.vals kPg b).toArray) = Op.equalIn (9997 + 3) 57 (.agg (Row.vals kPg a).toArray) (.agg (Row.vals kPg b).toArray) from rfl, ht]
    rfl
  refine runsTo_of_run hrun ⟨t, rfl, h t (hiff.trans ⟨fun e => ?_, fun e => by rw [e]⟩) w hw⟩
  simp only [pgLits, List.cons.injEq, Lit.int.injEq, true_and, and_true] at e
  obtain ⟨e0, e1, e2, e3, e4, e5, e6, e7, e8, e9, e10⟩ := e
  obtain ⟨a0, a1, a2, a3, a4, a5, a6, a7, a8, a9, a10, _⟩ := a
  obtain ⟨c0, c1, c2, c3, c4, c5, c6, c7, c8, c9, c10, _⟩ := b
  replace e0 : a0 = c0 := e0
  replace e1 : a1 = c1 := e1
  replace e2 : a2 = c2 := e2
  replace e3 : a3 = c3 := e3
  replace e4 : a4 = c4 := e4
  replace e5 : a5 = c5 := e5
  replace e6 : a6 = c6 := e6
  replace e7 : a7 = c7 := e7
  replace e8 : a8 = c8 := e8
  replace e9 : a9 = c9 := e9
  replace e10 : a10 = c10 := e10
  subst e0 e1 e2 e3 e4 e5 e6 e7 e8 e9 e10
  rfl

/-! ## Reading -/

theorem pages_ct {m : Nat} {μ : Mp} {K : Tup [sI] → World → Prop} {KP : List PanicEntry → World → Prop} (h : ent e l (K ((μ.n : Int), ()))) (k : Take l (isMap m μ) r := by with_reducible first | assumption | ((repeat (first | exact .here | apply Take.there)); done)) :
    ent e l ((wpM PR).call 39 [vP m] [sI] K KP) := by
  refine ent_call (fn := Go.Proofs.Try.f39) (by kernel_rfl) ?_
  rw [nf39_eq]
  refine ent_map_len (fun s hs => ?_) k
  show ent e l (K ((s.len : Int), ()))
  rw [hs]; exact h

theorem within_ct {v a b : Int} {K : Tup [sB] → World → Prop} {KP : List PanicEntry → World → Prop} (h1 : a ≤ v → v ≤ b → ent e l (K (true, ()))) (h2 : (v < a ∨ b < v) → ent e l (K (false, ()))) :
    ent e l ((wpM PR).call 102 [vI v, vI a, vI b] [sB] K KP) := by
  refine ent_call (fn := Go.Proofs.Try.f102) (by kernel_rfl) ?_
  rw [nf102_eq]
  refine ent_ge (fun c => ?_) (fun c => h2 (.inl c))
  show ent e l (K (decide (v ≤ b), ()))
  by_cases hb : v ≤ b
  · rw [decide_eq_true hb]; exact h1 c hb
  · rw [decide_eq_false hb]; exact h2 (.inr (by omega))

theorem plainPg_ct {z k : Int} {K : Tup [sPg] → World → Prop} {KP : List PanicEntry → World → Prop} (h : ent e l (K (plainPg z k, ()))) :
    ent e l ((wpM PR).call 103 [vI z, vI k] [sPg] K KP) := by
  refine ent_call (fn := Go.Proofs.Try.f103) (by kernel_rfl) ?_
  rw [nf103_eq]
  refine ent_new fun b => ?_
  refine ent_store .here (by intro u hu; simp at hu; rcases hu with rfl | rfl | rfl | rfl | rfl | rfl | rfl | rfl | rfl | rfl | rfl <;> rfl) (by simp) ?_
  refine ent_load (s := sPg) (plainPg z k) .here (fun i v hv => by rw [Nat.zero_add]; exact hv) ?_
  exact ent_drop h

theorem size_ct {m : Nat} {μ : Mp} {K : Tup [sI] → World → Prop} {KP : List PanicEntry → World → Prop} (h : ent e l (K (((2 ^ μ.order : Nat) : Int), ()))) (k : Take l (isMap m μ) r := by with_reducible first | assumption | ((repeat (first | exact .here | apply Take.there)); done)) :
    ent e l ((wpM PR).call 106 [vP m] [sI] K KP) := by
  refine ent_call (fn := Go.Proofs.Try.f106) (by kernel_rfl) ?_
  rw [nf106_eq]
  refine ent_map_ok (fun ok => ?_) k
  refine ent_map_order ?_ k
  refine ent_g0 (by omega) ?_
  rw [shl_nat (by have := ok.order; omega)]
  exact h

theorem at_ct {m : Nat} {μ : Mp} {x : Int} {K : Tup [sPg, sB] → World → Prop} {KP : List PanicEntry → World → Prop}
    (h1 : ∀ i : Nat, x = i → i < μ.n → ent e l (K (μ.pages i, true, ()))) (h2 : (x < 0 ∨ (μ.n : Int) ≤ x) → ent e l (K (pg0, false, ()))) (k : Take l (isMap m μ) r := by with_reducible first | assumption | ((repeat (first | exact .here | apply Take.there)); done)) :
    ent e l ((wpM PR).call 99 [vP m, vI x] [sPg, sB] K KP) := by
  refine ent_call (fn := Go.Proofs.Try.f99) (by kernel_rfl) ?_
  rw [nf99_eq]
  refine ent_new fun b => ?_
  have one : ∀ u ∈ [vI 0, vI 0, vI 0, vI 0, vI 0, vI 0, vI 0, vU 0, vU 0, vU 0, vU 0], u.oneCell' = true := by
    intro u hu; simp at hu; rcases hu with rfl | rfl <;> rfl
  refine ent_joinP (A := Unit) (fun _ _ => ∃ i : Nat, x = i ∧ i < μ.n) (fun _ => blk b 57 [vI 0, vI 0, vI 0, vI 0, vI 0, vI 0, vI 0, vU 0, vU 0, vU 0, vU 0] :: l) (fun _ _ hp => ?_) (fun kk hkk => ?_)
  · obtain ⟨i, rfl, hi⟩ := hp
    refine ent_map (fun ps qs ptrs ok hl1 hl2 => ?_) (.there k)
    refine ent_load1 ps .here rfl ?_
    refine ent_atT (sh := sPg) (f := μ.pages) i rfl hi ?_ (.there .here)
    refine ent_store (.there (.there (.there (.there .here)))) (Shp.cells_one (sh := sPg) rfl (μ.pages i)) (by simp) ?_
    refine ent_load (s := sPg) (μ.pages i) .here (fun j v hv => by rw [Nat.zero_add]; exact hv) ?_
    exact ent_sub (Sub.trans (Sub.drop (sub_map μ ok (by repeat (first | exact Sub.refl | refine Sub.cons (by with_reducible first | assumption | ((repeat (first | exact .here | apply Take.there)); done)) ?_ | refine Sub.drop ?_)))) (Sub.untake k)) (h1 i rfl hi)
  · refine ent_lt (fun c => ?_) (fun c => ?_)
    · refine ent_store .here one (by simp) ?_
      refine ent_load (s := sPg) pg0 .here (fun j v hv => by rw [Nat.zero_add]; exact hv) ?_
      exact ent_drop (h2 (.inl c))
    · refine ent_map_len (fun s hs => ?_) (.there k)
      refine ent_ge (fun c2 => ?_) (fun c2 => ?_)
      · refine ent_store .here one (by simp) ?_
        refine ent_load (s := sPg) pg0 .here (fun j v hv => by rw [Nat.zero_add]; exact hv) ?_
        exact ent_drop (h2 (.inr (by omega)))
      · exact hkk () _ ⟨x.toNat, by omega, by omega⟩

end Go.Proofs.Ytdmfnlcbfmahhaa
