/- What the functions of the buddy do, whatever stands in its space, its map, its heads. -/
import Derived.Test.YtdmfnlcbfmahhaaMapD
import Derived.Test.YtdmfnlcbfmahhaaLinksC
import Derived.Test.YtdmfnlcbfmahhaaNfBuddy
import Derived.Test.YtdmfnlcbfmahhaaBd
namespace Go.Proofs.Ytdmfnlcbfmahhaa
open Go Hl
set_option maxRecDepth 100000

variable {e : Still} {l r : List HP}

structure BS where
  σ : Sp
  μ : Mp
  heads : Nat → Nat

abbrev BS.O (B : BS) : Nat := B.σ.order
def BS.adr (B : BS) (p : Nat) : Nat := B.σ.base + 4096 * p

structure BS.Ok (B : BS) : Prop where
  order : B.μ.order = B.σ.order
  heads : ∀ k, k ≤ B.σ.order → B.heads k < 18446744073709551616

def isBud (b s m base limit order : Nat) (heads : Nat → Nat) : HP := ex fun q : Sl × (Nat → Nat) => all [
  blk b 146 [vU base, vI limit, vI order, vP s, vP m, .slice q.1.base q.1.len q.1.cap],
  arr 163 sP q.1 (tab (order + 1) fun k => (some ⟨q.2 k, 0, none⟩ : Option Addr)),
  each (order + 1) fun k => isList (q.2 k) s (heads k)]

def isB (b s m : Nat) (B : BS) : HP := all [fact B.Ok, isSpace s B.σ, isMap m B.μ, isBud b s m B.σ.base B.σ.limit B.σ.order B.heads]

variable {b s m : Nat} {B : BS} {X : World → Prop}

theorem ent_B (h : B.Ok → ent e (isSpace s B.σ :: isMap m B.μ :: isBud b s m B.σ.base B.σ.limit B.σ.order B.heads :: r) X) (k : Take l (isB b s m B) r := by with_reducible first | assumption | ((repeat (first | exact .here | apply Take.there)); done)) : ent e l X := by
  refine ent_all k ?_
  exact ent_fact .here h

theorem sub_B {σ : Sp} {μ : Mp} {heads : Nat → Nat} {base limit order : Nat} {l' : List HP} (B : BS) (ok : B.Ok) (h : Sub l (isSpace s σ :: isMap m μ :: isBud b s m base limit order heads :: l'))
    (e1 : B = ⟨σ, μ, heads⟩ := by rfl) (e2 : base = σ.base := by rfl) (e3 : limit = σ.limit := by rfl) (e4 : order = σ.order := by rfl) : Sub l (isB b s m B :: l') := by
  subst e1 e2 e3 e4
  exact Sub.all (Sub.fact ok h)

theorem ent_bud {base limit order : Nat} {heads : Nat → Nat}
    (h : ∀ (ls : Sl) (ptrs : Nat → Nat), ls.len = order + 1 → ent e (blk b 146 [vU base, vI limit, vI order, vP s, vP m, .slice ls.base ls.len ls.cap] ::
      arr 163 sP ls (tab (order + 1) fun k => (some ⟨ptrs k, 0, none⟩ : Option Addr)) :: each (order + 1) (fun k => isList (ptrs k) s (heads k)) :: r) X)
    (k : Take l (isBud b s m base limit order heads) r := by with_reducible first | assumption | ((repeat (first | exact .here | apply Take.there)); done)) : ent e l X := by
  refine ent_ex k fun q => ent_all .here ?_
  refine ent_len (.there .here) fun h1 => ?_
  rw [tab_len] at h1
  exact h q.1 q.2 h1

theorem sub_bud {base limit order : Nat} {heads : Nat → Nat} {ls : Sl} {ptrs : Nat → Nat} {l' : List HP}
    (h : Sub l (blk b 146 [vU base, vI limit, vI order, vP s, vP m, .slice ls.base ls.len ls.cap] ::
      arr 163 sP ls (tab (order + 1) fun k => (some ⟨ptrs k, 0, none⟩ : Option Addr)) :: each (order + 1) (fun k => isList (ptrs k) s (heads k)) :: l')) : Sub l (isBud b s m base limit order heads :: l') :=
  Sub.ex (ls, ptrs) (Sub.all h)

/-- A plain field of the buddy's, read. -/
theorem ent_B_ld {off : Nat} {kd : Kind} {K : kd.T → World → Prop} (x : kd.T) (h : ent e l (K x)) (k : Take l (isB b s m B) r := by with_reducible first | assumption | ((repeat (first | exact .here | apply Take.there)); done))
    (hv : [vU B.σ.base, vI B.σ.limit, vI B.σ.order, vP s, vP m][off]? = some (kd.inj x) := by rfl) : ent e l ((wpM PR).load (.one kd) ⟨b, off, none⟩ K) := by
  refine ent_B (fun ok => ?_) k
  refine ent_bud fun ls ptrs hl => ?_
  refine ent_load1 x .here ?_ ?_
  · have hlt : off < 5 := by have := (List.getElem?_eq_some_iff.1 hv).1; simpa using this
    have : [vU B.σ.base, vI B.σ.limit, vI B.σ.order, vP s, vP m, .slice ls.base ls.len ls.cap][off]? = [vU B.σ.base, vI B.σ.limit, vI B.σ.order, vP s, vP m][off]? :=
      List.getElem?_append_left (l₁ := [vU B.σ.base, vI B.σ.limit, vI B.σ.order, vP s, vP m]) (l₂ := [.slice ls.base ls.len ls.cap]) (by simpa using hlt)
    rw [this]; exact hv
  · exact ent_sub (Sub.trans (sub_B B ok (Sub.cons (by with_reducible first | assumption | ((repeat (first | exact .here | apply Take.there)); done)) (Sub.cons (by with_reducible first | assumption | ((repeat (first | exact .here | apply Take.there)); done)) (sub_bud (by repeat (first | exact Sub.refl | refine Sub.cons (by with_reducible first | assumption | ((repeat (first | exact .here | apply Take.there)); done)) ?_ | refine Sub.drop ?_)))))) (Sub.untake k)) h

theorem ent_B_ok (h : B.Ok → B.σ.Ok → B.μ.Ok → ent e l X) (k : Take l (isB b s m B) r := by with_reducible first | assumption | ((repeat (first | exact .here | apply Take.there)); done)) : ent e l X := by
  refine ent_B (fun ok => ?_) k
  refine ent_space_ok .here fun ok1 => ?_
  refine ent_map_ok (fun ok2 => ?_)
  exact ent_sub (Sub.trans (sub_B B ok (by repeat (first | exact Sub.refl | refine Sub.cons (by with_reducible first | assumption | ((repeat (first | exact .here | apply Take.there)); done)) ?_ | refine Sub.drop ?_))) (Sub.untake k)) (h ok ok1 ok2)

theorem ent_B_keep {off : Nat} {v : Value} {fs : List (Addr × List Value)} {x : World → Prop} (h : ent e l ((wpM PR).keep fs x)) (k : Take l (isB b s m B) r := by with_reducible first | assumption | ((repeat (first | exact .here | apply Take.there)); done))
    (hv : [vU B.σ.base, vI B.σ.limit, vI B.σ.order, vP s, vP m][off]? = some v := by rfl) : ent e l ((wpM PR).keep ((⟨b, off, none⟩, [v]) :: fs) x) := by
  refine ent_keepS (fun w hw => ?_) h
  have : ent e l (fun w => Hl.rowAt w ⟨b, off, none⟩ [v]) := by
    refine ent_B (fun ok => ?_) k
    refine ent_bud fun ls ptrs hl => ?_
    intro w hw
    refine hw.rowAt .here fun i u hu => ?_
    cases i with
    | zero =>
      simp at hu; subst hu
      have hlt : off < 5 := by have := (List.getElem?_eq_some_iff.1 hv).1; simpa using this
      have : [vU B.σ.base, vI B.σ.limit, vI B.σ.order, vP s, vP m, .slice ls.base ls.len ls.cap][off]? = [vU B.σ.base, vI B.σ.limit, vI B.σ.order, vP s, vP m][off]? :=
        List.getElem?_append_left (l₁ := [vU B.σ.base, vI B.σ.limit, vI B.σ.order, vP s, vP m]) (l₂ := [.slice ls.base ls.len ls.cap]) (by simpa using hlt)
      rw [Nat.add_zero, this]; exact hv
    | succ i => simp at hu
  exact this w hw

/-! ## Addresses and pages -/

theorem adr_lt {p : Nat} (ok : B.σ.Ok) (hp : p < 4096) : B.adr p < 18446744073709551616 := by
  have := ok.end_le
  unfold BS.adr; omega

theorem addr_ct {base : Nat} {vs : List Value} {t : TypeId} {x : Int} {K : Tup [sU] → World → Prop} {KP : List PanicEntry → World → Prop} (p : Nat) (hx : x = p) (hp : base + 4096 * p < 18446744073709551616) (h : ent e l (K (((base + 4096 * p : Nat) : Int), ())))
    (k : Take l (blk b t vs) r := by with_reducible first | assumption | ((repeat (first | exact .here | apply Take.there)); done)) (hv : vs[0]? = some (vU base) := by rfl) :
    ent e l ((wpM PR).call 80 [vP b, vI x] [sU] K KP) := by
  subst hx
  refine ent_call (fn := Go.Proofs.Try.f80) (by kernel_rfl) ?_
  rw [nf80_eq]
  refine ent_ld (base : Int) ?_ k hv
  show ent e l (K (wU ((base : Int) + wU (4096 * wU (p : Int))), ()))
  rw [wU_nat (n := p) (by omega), show (4096 : Int) * (p : Int) = ((4096 * p : Nat) : Int) by omega, wU_nat (n := 4096 * p) (by omega), ← Int.natCast_add, wU_nat (by omega)]
  exact h

theorem address_ct {x : Int} {K : Tup [sU] → World → Prop} {KP : List PanicEntry → World → Prop} (p : Nat) (hx : x = p) (hp : p < 4096) (h : ent e l (K ((B.adr p : Int), ()))) (k : Take l (isB b s m B) r := by with_reducible first | assumption | ((repeat (first | exact .here | apply Take.there)); done)) :
    ent e l ((wpM PR).call 80 [vP b, vI x] [sU] K KP) := by
  subst hx
  refine ent_call (fn := Go.Proofs.Try.f80) (by kernel_rfl) ?_
  rw [nf80_eq]
  refine ent_B_ok (fun _ ok _ => ?_) k
  refine ent_B_ld (B.σ.base : Int) ?_ k
  have := adr_lt ok hp
  unfold BS.adr at this h
  show ent e l (K (wU ((B.σ.base : Int) + wU (4096 * wU (p : Int))), ()))
  rw [wU_nat (n := p) (by omega), show (4096 : Int) * (p : Int) = ((4096 * p : Nat) : Int) by omega, wU_nat (n := 4096 * p) (by omega), ← Int.natCast_add, wU_nat (by omega)]
  exact h

/-- The page that begins at an address. -/
def BS.pageOf (B : BS) (p : Nat) : Option Nat := if B.σ.base ≤ p ∧ p % 4096 = 0 ∧ (p - B.σ.base) / 4096 < B.μ.n then some ((p - B.σ.base) / 4096) else none

theorem page_ct {x : Int} {K : Tup [sI, sB] → World → Prop} {KP : List PanicEntry → World → Prop} (p : Nat) (hx : x = p) (hp : p < 18446744073709551616)
    (h1 : ∀ q, B.pageOf p = some q → q < B.μ.n → ent e l (K ((q : Int), true, ()))) (h2 : B.pageOf p = none → ent e l (K (0, false, ()))) (k : Take l (isB b s m B) r := by with_reducible first | assumption | ((repeat (first | exact .here | apply Take.there)); done)) :
    ent e l ((wpM PR).call 92 [vP b, vU x] [sI, sB] K KP) := by
  subst hx
  refine ent_call (fn := Go.Proofs.Try.f92) (by kernel_rfl) ?_
  rw [nf92_eq]
  refine ent_B_ok (fun _ ok okm => ?_) k
  have hn := okm.n
  have he := ok.end_le
  have no : ¬ (B.σ.base ≤ p ∧ p % 4096 = 0 ∧ (p - B.σ.base) / 4096 < B.μ.n) → ent e l (K (0, false, ())) := fun hn => h2 (by unfold BS.pageOf; rw [if_neg hn])
  have eq : B.σ.base ≤ p → wU ((wU ((p : Int) - (B.σ.base : Int))).tdiv 4096) = (((p - B.σ.base) / 4096 : Nat) : Int) := fun hle => by
    rw [wU_sub hle hp, show (4096 : Int) = ((4096 : Nat) : Int) from rfl, tdiv_nat, wU_nat (by omega)]
  refine ent_joinP (A := Unit) (fun _ _ => B.σ.base ≤ p ∧ p % 4096 = 0 ∧ (p - B.σ.base) / 4096 < B.μ.n) (fun _ => l) (fun _ _ hc => ?_) (fun kk hkk => ?_)
  · refine ent_B_ld (B.σ.base : Int) ?_ k
    show ent e l (K (wI (wU ((wU ((p : Int) - (B.σ.base : Int))).tdiv 4096)), true, ()))
    rw [eq hc.1, wI_nat (by omega)]
    exact h1 _ (by unfold BS.pageOf; rw [if_pos hc]) hc.2.2
  · refine ent_draw ?_
    refine ent_B_ld (B.σ.base : Int) ?_ k
    refine ent_lt (fun c => no (by omega)) (fun c => ?_)
    have hle : B.σ.base ≤ p := by omega
    rw [show (4096 : Int) = ((4096 : Nat) : Int) from rfl, tmod_nat]
    refine ent_ne (fun c2 => no (by omega)) (fun c2 => ?_)
    refine ent_B_ld (B.σ.base : Int) ?_ k
    refine ent_B_ld (some ⟨m, 0, none⟩) ?_ k
    refine ent_B (fun okb => ?_) k
    refine pages_ct ?_
    refine ent_sub (Sub.trans (sub_B B okb (by repeat (first | exact Sub.refl | refine Sub.cons (by with_reducible first | assumption | ((repeat (first | exact .here | apply Take.there)); done)) ?_ | refine Sub.drop ?_))) (Sub.untake k)) ?_
    refine ent_B_keep ?_ k
    refine ent_keep0 ?_
    have eq' := eq hle
    rw [show ((4096 : Int)) = ((4096 : Nat) : Int) from rfl] at eq'
    rw [eq', wU_nat (n := B.μ.n) (by omega)]
    refine ent_ge (fun c3 => no (by omega)) (fun c3 => hkk () _ ⟨hle, by omega, by omega⟩)

/-! ## Entering, turning, cutting -/

def Mp.runI (μ : Mp) (p k : Nat) (z : Int) : Mp := if k ≤ μ.order ∧ p % 2 ^ k = 0 ∧ p + 2 ^ k ≤ μ.n then μ.run p k z else μ

theorem Mp.runI_order {μ : Mp} {p k : Nat} {z : Int} : (μ.runI p k z).order = μ.order := by unfold Mp.runI; split <;> rfl
theorem Mp.runI_n {μ : Mp} {p k : Nat} {z : Int} : (μ.runI p k z).n = μ.n := by unfold Mp.runI; split <;> rfl

theorem runI_ct {μ : Mp} {x y z : Int} {K : Tup [sI] → World → Prop} {KP : List PanicEntry → World → Prop} (p k : Nat) (hx : x = p) (hy : y = k) (hz : z = 0 ∨ z = 2)
    (h : ∀ c, ent e (isMap m (μ.runI p k z) :: r) (K (c, ()))) (t : Take l (isMap m μ) r := by with_reducible first | assumption | ((repeat (first | exact .here | apply Take.there)); done)) :
    ent e l ((wpM PR).call 48 [vP m, vI x, vI y, vI z] [sI] K KP) := by
  subst hx hy
  refine run_ct (fun p' k' h1 h2 _ h3 h4 h5 => ?_) (fun hno => ?_) t
  · obtain rfl : p = p' := by omega
    obtain rfl : k = k' := by omega
    have := h 0
    unfold Mp.runI at this
    rw [if_pos ⟨h3, h4, h5⟩] at this
    exact this
  · have := h 1
    unfold Mp.runI at this
    rw [if_neg (fun hc => hno ⟨p, k, rfl, rfl, hz, hc.1, hc.2.1, hc.2.2⟩)] at this
    exact ent_sub (Sub.cons t .refl) this

def BS.enter (B : BS) (p k : Nat) : BS := ⟨(B.σ.push (B.heads k) (B.adr p)).1, B.μ.runI p k 0, fun j => if j = k then (B.σ.push (B.heads k) (B.adr p)).2.1 else B.heads j⟩

theorem push_cf {σ : Sp} {h a : Nat} : (σ.push h a).1.base = σ.base ∧ (σ.push h a).1.limit = σ.limit ∧ (σ.push h a).1.order = σ.order ∧ (σ.push h a).1.n = σ.n := by
  have hs : ∀ {σ : Sp} {p v : Nat}, (σ.set p v).base = σ.base ∧ (σ.set p v).limit = σ.limit ∧ (σ.set p v).order = σ.order ∧ (σ.set p v).n = σ.n := by
    intro σ p v; unfold Sp.set; split <;> exact ⟨rfl, rfl, rfl, rfl⟩
  unfold Sp.push
  split
  · exact ⟨rfl, rfl, rfl, rfl⟩
  · split
    · exact ⟨rfl, rfl, rfl, rfl⟩
    · simp only
      split <;> simp [hs]

theorem remove_cf {σ : Sp} {h a : Nat} : (σ.remove h a).1.base = σ.base ∧ (σ.remove h a).1.limit = σ.limit ∧ (σ.remove h a).1.order = σ.order ∧ (σ.remove h a).1.n = σ.n := by
  have hs : ∀ {σ : Sp} {p v : Nat}, (σ.set p v).base = σ.base ∧ (σ.set p v).limit = σ.limit ∧ (σ.set p v).order = σ.order ∧ (σ.set p v).n = σ.n := by
    intro σ p v; unfold Sp.set; split <;> exact ⟨rfl, rfl, rfl, rfl⟩
  unfold Sp.remove
  split
  · exact ⟨rfl, rfl, rfl, rfl⟩
  · split
    · exact ⟨rfl, rfl, rfl, rfl⟩
    · simp only
      split <;> split <;> simp [hs]

theorem push_lt {σ : Sp} {h a : Nat} (hh : h < 18446744073709551616) (ha : a < 18446744073709551616) : (σ.push h a).2.1 < 18446744073709551616 := by
  unfold Sp.push
  split
  · exact hh
  · split
    · exact hh
    · exact ha

theorem remove_lt {σ : Sp} (ok : σ.Ok) {h a : Nat} (hh : h < 18446744073709551616) : (σ.remove h a).2.1 < 18446744073709551616 := by
  unfold Sp.remove
  split
  · exact hh
  · split
    · exact hh
    · show (if _ then _ else _) < _
      split
      · exact word_lt ok _
      · exact hh

theorem enter_ok (okb : B.Ok) (ok : B.σ.Ok) {p k : Nat} (hp : p < 4096) : (B.enter p k).Ok := by
  have h := push_cf (σ := B.σ) (h := B.heads k) (a := B.adr p)
  refine ⟨?_, fun j hj => ?_⟩
  · show (B.μ.runI p k 0).order = (B.σ.push (B.heads k) (B.adr p)).1.order
    rw [Mp.runI_order, h.2.2.1, okb.order]
  · replace hj : j ≤ (B.σ.push (B.heads k) (B.adr p)).1.order := hj
    rw [h.2.2.1] at hj
    show (if j = k then (B.σ.push (B.heads k) (B.adr p)).2.1 else B.heads j) < _
    split
    · rename_i e; subst e; exact push_lt (okb.heads j hj) (adr_lt ok hp)
    · exact okb.heads j hj

theorem enter_ct {x y : Int} {K : Tup [] → World → Prop} {KP : List PanicEntry → World → Prop} (p j : Nat) (hx : x = p) (hy : y = j) (hp : p < 4096) (hj : j ≤ B.σ.order)
    (h : ent e (isB b s m (B.enter p j) :: r) (K ())) (k : Take l (isB b s m B) r := by with_reducible first | assumption | ((repeat (first | exact .here | apply Take.there)); done)) :
    ent e l ((wpM PR).call 97 [vP b, vI x, vI y] [] K KP) := by
  subst hx hy
  refine ent_call (fn := Go.Proofs.Try.f97) (by kernel_rfl) ?_
  rw [nf97_eq]
  refine ent_B_ok (fun okb ok okm => ?_) k
  refine ent_B_ld (some ⟨m, 0, none⟩) ?_ k
  refine ent_B (fun _ => ?_) k
  refine runI_ct p j rfl rfl (.inl rfl) fun _ => ?_
  refine ent_draw ?_
  refine ent_bud fun ls ptrs hl => ?_
  refine ent_ld ls ?_
  refine ent_atK (sh := sP) (f := fun k => (some ⟨ptrs k, 0, none⟩ : Option Addr)) j rfl (show j < B.σ.order + 1 by omega) fun g hg => ?_
  refine addr_ct p rfl (adr_lt ok hp) ?_
  refine ent_keepT j hg rfl (show j < B.σ.order + 1 by omega) ?_
  refine ent_keepB ?_
  refine ent_keep0 ?_
  refine ent_each j (show j < B.σ.order + 1 by omega) ?_
  refine ent_sub (l' := isList (ptrs j) s (B.heads j) :: isSpace s B.σ :: _) (Sub.cons (by with_reducible first | assumption | ((repeat (first | exact .here | apply Take.there)); done)) (Sub.cons (by with_reducible first | assumption | ((repeat (first | exact .here | apply Take.there)); done)) .refl)) ?_
  refine push_ct (B.adr p) .here .here rfl (adr_lt ok hp) (okb.heads j hj) ?_
  have hcf := push_cf (σ := B.σ) (h := B.heads j) (a := B.adr p)
  refine ent_sub (sub_B (B.enter p j) (enter_ok okb ok hp) (Sub.cons (by with_reducible first | assumption | ((repeat (first | exact .here | apply Take.there)); done)) (Sub.cons (by with_reducible first | assumption | ((repeat (first | exact .here | apply Take.there)); done)) (sub_bud (ls := ls) (ptrs := ptrs) (Sub.cons (by with_reducible first | assumption | ((repeat (first | exact .here | apply Take.there)); done)) (Sub.cons (by with_reducible first | assumption | ((repeat (first | exact .here | apply Take.there)); done)) (Sub.each (f := fun k => isList (ptrs k) s (B.heads k)) (show j < B.σ.order + 1 by omega) (fun i hi hne => ?_) ?_)))))) rfl hcf.1.symm hcf.2.1.symm hcf.2.2.1.symm) h
  · show isList _ _ (if i = j then _ else _) = _
    rw [if_neg hne]
  · show Sub _ (isList _ _ (if j = j then _ else _) :: _)
    rw [if_pos rfl]
    exact (by repeat (first | exact Sub.refl | refine Sub.cons (by with_reducible first | assumption | ((repeat (first | exact .here | apply Take.there)); done)) ?_ | refine Sub.drop ?_))

def BS.turn (B : BS) (p k : Nat) : BS × Bool :=
  if k = B.σ.order then (B, true)
  else if k < B.σ.order ∧ p < B.μ.n then (⟨B.σ, B.μ.flip k (p / 2 ^ (k + 1)), B.heads⟩, !B.μ.pairs k (p / 2 ^ (k + 1)))
  else (B, false)

theorem turn_cf {p k : Nat} : (B.turn p k).1.σ = B.σ ∧ (B.turn p k).1.heads = B.heads ∧ (B.turn p k).1.μ.n = B.μ.n ∧ (B.turn p k).1.μ.order = B.μ.order := by
  unfold BS.turn
  split
  · exact ⟨rfl, rfl, rfl, rfl⟩
  · split <;> exact ⟨rfl, rfl, rfl, rfl⟩

theorem turn_ct {x y : Int} {K : Tup [sB] → World → Prop} {KP : List PanicEntry → World → Prop} (p j : Nat) (hx : x = p) (hy : y = j)
    (h : ent e (isB b s m (B.turn p j).1 :: r) (K ((B.turn p j).2, ()))) (k : Take l (isB b s m B) r := by with_reducible first | assumption | ((repeat (first | exact .here | apply Take.there)); done)) :
    ent e l ((wpM PR).call 93 [vP b, vI x, vI y] [sB] K KP) := by
  subst hx hy
  refine ent_call (fn := Go.Proofs.Try.f93) (by kernel_rfl) ?_
  rw [nf93_eq]
  refine ent_B_ok (fun okb ok okm => ?_) k
  unfold BS.turn at h
  refine ent_B_ld (B.σ.order : Int) ?_ k
  refine ent_eq (fun c => ?_) (fun c => ?_)
  · have c : j = B.σ.order := by omega
    rw [if_pos c] at h
    exact ent_sub (Sub.cons k .refl) h
  · have c : j ≠ B.σ.order := by omega
    rw [if_neg c] at h
    refine ent_B_ld (some ⟨m, 0, none⟩) ?_ k
    refine ent_B (fun _ => ?_) k
    refine flip_ct (fun k' p' hk hp hko hpn => ?_) (fun hno => ?_)
    · obtain rfl : j = k' := by omega
      obtain rfl : p = p' := by omega
      rw [okb.order] at hko
      rw [if_pos ⟨hko, hpn⟩] at h
      exact ent_sub (sub_B ⟨B.σ, B.μ.flip j (p / 2 ^ (j + 1)), B.heads⟩ ⟨okb.order, okb.heads⟩ (by repeat (first | exact Sub.refl | refine Sub.cons (by with_reducible first | assumption | ((repeat (first | exact .here | apply Take.there)); done)) ?_ | refine Sub.drop ?_))) h
    · rw [if_neg (fun hc => hno ⟨j, p, rfl, rfl, by rw [okb.order]; exact hc.1, hc.2⟩)] at h
      exact ent_sub (sub_B B okb (by repeat (first | exact Sub.refl | refine Sub.cons (by with_reducible first | assumption | ((repeat (first | exact .here | apply Take.there)); done)) ?_ | refine Sub.drop ?_))) h

/-- The upper halves, so many times, down to an order. -/
def BS.cutN (B : BS) (p to : Nat) : Nat → BS
  | 0 => B
  | n + 1 => (((B.enter (p + 2 ^ (to + n)) (to + n)).turn (p + 2 ^ (to + n)) (to + n)).1).cutN p to n

def BS.cut (B : BS) (p fr to : Nat) : BS := let C := B.cutN p to (fr - to); ⟨C.σ, C.μ.runI p to 2, C.heads⟩

theorem enter_order {p k : Nat} : (B.enter p k).σ.order = B.σ.order := push_cf.2.2.1

theorem cutN_order : ∀ (n : Nat) {B : BS} {p to : Nat}, (B.cutN p to n).σ.order = B.σ.order
  | 0, _, _, _ => rfl
  | n + 1, B, p, to => by
    unfold BS.cutN
    rw [cutN_order n, turn_cf.1, enter_order]

theorem cut_order {p fr to : Nat} : (B.cut p fr to).σ.order = B.σ.order := cutN_order _

theorem cut_ct {x y z : Int} {K : Tup [] → World → Prop} {KP : List PanicEntry → World → Prop} (p fr to : Nat) (hx : x = p) (hy : y = fr) (hz : z = to) (hp : p < 2048) (hfr : fr ≤ B.σ.order) (hto : to ≤ fr)
    (h : ent e (isB b s m (B.cut p fr to) :: r) (K ())) (k : Take l (isB b s m B) r := by with_reducible first | assumption | ((repeat (first | exact .here | apply Take.there)); done)) :
    ent e l ((wpM PR).call 94 [vP b, vI x, vI y, vI z] [] K KP) := by
  subst hx hy hz
  refine ent_call (fn := Go.Proofs.Try.f94) (by kernel_rfl) ?_
  rw [nf94_eq]
  refine ent_B_ok (fun okb ok okm => ?_) k
  have ho := ok.order
  refine ent_loop (S := Nat × BS) (fun t => ((to : Int) + (t.1 : Int) - 1, ())) (fun t => isB b s m t.2 :: r) (fun t => to + t.1 ≤ fr ∧ t.2.cutN p to t.1 = B.cutN p to (fr - to) ∧ t.2.σ.order = B.σ.order) (fun t => t.1) (fr - to, B)
    (by show (wI ((fr : Int) - 1), ()) = _; rw [wI_of (by omega) (by omega)]; congr 1; simp only; omega) ⟨by simp only; omega, rfl, rfl⟩ (fun _ y => k.stars y) ?_
  rintro kk ⟨n, C⟩ ⟨hn, hC, hCo⟩ hk
  simp only at hn hC hCo hk ⊢
  refine ent_ge (fun c => ?_) (fun c => ?_)
  · obtain ⟨n, rfl⟩ : ∃ n', n = n' + 1 := ⟨n - 1, by omega⟩
    have e1 : (to : Int) + ((n + 1 : Nat) : Int) - 1 = ((to + n : Nat) : Int) := by omega
    rw [e1]
    have hpw := pow_le8 (show to + n ≤ 8 by omega)
    have hq0 : (0 : Int) ≤ ((2 ^ (to + n) : Nat) : Int) := Int.natCast_nonneg _
    refine ent_g0 (by omega) ?_
    rw [shl_nat (show to + n ≤ 62 by omega)]
    have e2 : wI ((p : Int) + ((2 ^ (to + n) : Nat) : Int)) = ((p + 2 ^ (to + n) : Nat) : Int) := by rw [wI_of (by omega) (by omega)]; omega
    rw [e2]
    refine enter_ct (B := C) (p + 2 ^ (to + n)) (to + n) rfl rfl (by omega) (by omega) ?_ .here
    refine ent_g0 (by omega) ?_
    refine turn_ct (p + 2 ^ (to + n)) (to + n) rfl rfl ?_ .here
    rw [show wI (((to + n : Nat) : Int) - 1) = (to : Int) + (n : Int) - 1 by rw [wI_of (by omega) (by omega)]; omega]
    refine hk (n, ((C.enter (p + 2 ^ (to + n)) (to + n)).turn (p + 2 ^ (to + n)) (to + n)).1) ⟨by simp only; omega, hC, ?_⟩ (by simp only; omega)
    simp only
    rw [turn_cf.1, enter_order, hCo]
  · obtain rfl : n = 0 := by omega
    refine ent_B_ld (some ⟨m, 0, none⟩) ?_
    refine ent_B fun okc => ?_
    refine runI_ct p to rfl rfl (.inr rfl) fun _ => ?_
    refine ent_sub (sub_B (B.cut p fr to) ⟨?_, ?_⟩ (by repeat (first | exact Sub.refl | refine Sub.cons (by with_reducible first | assumption | ((repeat (first | exact .here | apply Take.there)); done)) ?_ | refine Sub.drop ?_)) ?_ ?_ ?_ ?_) h
    · show ((B.cutN p to (fr - to)).μ.runI p to 2).order = (B.cutN p to (fr - to)).σ.order
      rw [Mp.runI_order, ← hC]; exact okc.order
    · show ∀ j, j ≤ (B.cutN p to (fr - to)).σ.order → (B.cutN p to (fr - to)).heads j < _
      rw [← hC]; exact okc.heads
    · show (⟨(B.cutN p to (fr - to)).σ, (B.cutN p to (fr - to)).μ.runI p to 2, (B.cutN p to (fr - to)).heads⟩ : BS) = _
      rw [← hC]; rfl
    · rfl
    · rfl
    · rfl

/-! ## Taking -/

def BS.takeN (B : BS) (k j : Nat) : Nat → BS × Nat × Nat
  | 0 => (B, 0, 2)
  | n + 1 =>
    let q := B.σ.pop (B.heads j)
    let C : BS := ⟨q.1, B.μ, fun i => if i = j then q.2.1 else B.heads i⟩
    if q.2.2.2 = 9 then B.takeN k (j + 1) n
    else match C.pageOf q.2.2.1 with
      | none => (C, 0, 8)
      | some p => if q.2.2.2 ≠ 0 then (C, 0, 8) else (((C.turn p j).1).cut p j k, q.2.2.1, 0)

theorem takeN_succ {k j n : Nat} : B.takeN k j (n + 1) =
    if (B.σ.pop (B.heads j)).2.2.2 = 9 then B.takeN k (j + 1) n
    else match (⟨(B.σ.pop (B.heads j)).1, B.μ, fun i => if i = j then (B.σ.pop (B.heads j)).2.1 else B.heads i⟩ : BS).pageOf (B.σ.pop (B.heads j)).2.2.1 with
      | none => (⟨(B.σ.pop (B.heads j)).1, B.μ, fun i => if i = j then (B.σ.pop (B.heads j)).2.1 else B.heads i⟩, 0, 8)
      | some p => if (B.σ.pop (B.heads j)).2.2.2 ≠ 0 then (⟨(B.σ.pop (B.heads j)).1, B.μ, fun i => if i = j then (B.σ.pop (B.heads j)).2.1 else B.heads i⟩, 0, 8)
        else ((((⟨(B.σ.pop (B.heads j)).1, B.μ, fun i => if i = j then (B.σ.pop (B.heads j)).2.1 else B.heads i⟩ : BS).turn p j).1).cut p j k, (B.σ.pop (B.heads j)).2.2.1, 0) := rfl

/-- Take: the state, the address, the answer. -/
def BS.take (B : BS) (x : Int) : BS × Nat × Nat := if 0 ≤ x ∧ x ≤ B.σ.order then B.takeN x.toNat x.toNat (B.σ.order + 1 - x.toNat) else (B, 0, 1)

theorem pop_cf {σ : Sp} {h : Nat} : (σ.pop h).1.base = σ.base ∧ (σ.pop h).1.limit = σ.limit ∧ (σ.pop h).1.order = σ.order ∧ (σ.pop h).1.n = σ.n := by
  unfold Sp.pop
  split
  · exact ⟨rfl, rfl, rfl, rfl⟩
  · exact remove_cf

theorem pop_nine {σ : Sp} {h : Nat} (h9 : (σ.pop h).2.2.2 = 9) : h = 0 := by
  unfold Sp.pop at h9
  split at h9
  · assumption
  · unfold Sp.remove at h9
    split at h9
    · simp at h9
    · split at h9 <;> simp at h9

theorem pop_zero {σ : Sp} : σ.pop 0 = (σ, 0, 0, 9) := by unfold Sp.pop; rw [if_pos rfl]

theorem pop_lt {σ : Sp} (ok : σ.Ok) {h : Nat} (hh : h < 18446744073709551616) : (σ.pop h).2.1 < 18446744073709551616 ∧ (σ.pop h).2.2.1 < 18446744073709551616 := by
  unfold Sp.pop
  split
  · exact ⟨hh, by show 0 < _; omega⟩
  · refine ⟨remove_lt ok hh, ?_⟩
    show (if _ then 0 else h) < _
    split <;> omega

theorem take_ct {x : Int} {K : Tup [sU, sI] → World → Prop} {KP : List PanicEntry → World → Prop}
    (h : ent e (isB b s m (B.take x).1 :: r) (K (((B.take x).2.1 : Int), ((B.take x).2.2 : Int), ()))) (k : Take l (isB b s m B) r := by with_reducible first | assumption | ((repeat (first | exact .here | apply Take.there)); done)) :
    ent e l ((wpM PR).call 41 [vP b, vI x] [sU, sI] K KP) := by
  refine ent_call (fn := Go.Proofs.Try.f41) (by kernel_rfl) ?_
  rw [nf41_eq]
  refine ent_B_ok (fun okb ok okm => ?_) k
  have ho := ok.order
  have bad : ¬ (0 ≤ x ∧ x ≤ B.σ.order) → ent e l (K (0, 1, ())) := fun hn => by
    unfold BS.take at h; rw [if_neg hn] at h
    exact ent_sub (Sub.cons k .refl) h
  refine ent_joinP (A := Unit) (fun _ q => (0 ≤ x ∧ x ≤ B.σ.order) ∧ q = (0, 0, ())) (fun _ => l) (fun _ q hp => ?_) (fun kk hkk => ?_)
  · obtain ⟨⟨hx0, hxo⟩, rfl⟩ := hp
    unfold BS.take at h
    rw [if_pos ⟨hx0, hxo⟩] at h
    obtain ⟨t, rfl⟩ : ∃ t : Nat, x = t := ⟨x.toNat, by omega⟩
    rw [Int.toNat_natCast] at h
    refine ent_loop (S := Nat) (fun n => ((0 : Int), (0 : Int), ((B.σ.order + 1 : Nat) : Int) - (n : Int), ())) (fun _ => isB b s m B :: r) (fun n => n + t ≤ B.σ.order + 1 ∧ B.takeN t (B.σ.order + 1 - n) n = B.takeN t t (B.σ.order + 1 - t)) (fun n => n) (B.σ.order + 1 - t)
      (by show ((0 : Int), (0 : Int), (t : Int), ()) = _; rw [show ((B.σ.order + 1 : Nat) : Int) - ((B.σ.order + 1 - t : Nat) : Int) = (t : Int) by omega]) ⟨by omega, by rw [show B.σ.order + 1 - (B.σ.order + 1 - t) = t by omega]⟩ (fun _ y => k.stars y) ?_
    rintro kk n ⟨hn, hT⟩ hk
    refine ent_B_ld (B.σ.order : Int) ?_
    refine ent_le (fun c => ?_) (fun c => ?_)
    · obtain ⟨n, rfl⟩ : ∃ n', n = n' + 1 := ⟨n - 1, by have c : ((B.σ.order + 1 : Nat) : Int) - (n : Int) ≤ (B.σ.order : Int) := c; omega⟩
      obtain ⟨j, hj⟩ : ∃ j : Nat, j + (n + 1) = B.σ.order + 1 := ⟨B.σ.order + 1 - (n + 1), by omega⟩
      have e1 : ((B.σ.order + 1 : Nat) : Int) - ((n + 1 : Nat) : Int) = (j : Int) := by omega
      simp only [e1]
      rw [show B.σ.order + 1 - (n + 1) = j by omega] at hT
      rw [takeN_succ] at hT
      refine ent_B fun _ => ?_
      refine ent_bud fun ls ptrs hl => ?_
      refine ent_ld ls ?_
      refine ent_atT (sh := sP) (f := fun k => (some ⟨ptrs k, 0, none⟩ : Option Addr)) j rfl (show j < B.σ.order + 1 by omega) ?_
      refine ent_each j (show j < B.σ.order + 1 by omega) ?_
      refine ent_sub (l' := isList (ptrs j) s (B.heads j) :: isSpace s B.σ :: _) (Sub.cons (by with_reducible first | assumption | ((repeat (first | exact .here | apply Take.there)); done)) (Sub.cons (by with_reducible first | assumption | ((repeat (first | exact .here | apply Take.there)); done)) .refl)) ?_
      refine pop_ct .here .here (okb.heads j (by omega)) ?_
      have hcf := pop_cf (σ := B.σ) (h := B.heads j)
      have hlt := pop_lt ok (okb.heads j (by omega))
      have okC : BS.Ok ⟨(B.σ.pop (B.heads j)).1, B.μ, fun i => if i = j then (B.σ.pop (B.heads j)).2.1 else B.heads i⟩ := by
        refine ⟨okb.order.trans hcf.2.2.1.symm, fun i hi => ?_⟩
        show (if i = j then _ else _) < _
        split
        · exact hlt.1
        · exact okb.heads i (by rw [hcf.2.2.1] at hi; exact hi)
      refine ent_sub (sub_B (b := b) (m := m) (l' := r) ⟨(B.σ.pop (B.heads j)).1, B.μ, fun i => if i = j then (B.σ.pop (B.heads j)).2.1 else B.heads i⟩ okC (Sub.cons (by with_reducible first | assumption | ((repeat (first | exact .here | apply Take.there)); done)) (Sub.cons (by with_reducible first | assumption | ((repeat (first | exact .here | apply Take.there)); done)) (sub_bud (ls := ls) (ptrs := ptrs) (Sub.cons (by with_reducible first | assumption | ((repeat (first | exact .here | apply Take.there)); done)) (Sub.cons (by with_reducible first | assumption | ((repeat (first | exact .here | apply Take.there)); done)) (Sub.each (f := fun k => isList (ptrs k) s (B.heads k)) (show j < B.σ.order + 1 by omega) (fun i hi hne => ?_) ?_)))))) rfl hcf.1.symm hcf.2.1.symm hcf.2.2.1.symm) ?_
      · show isList _ _ (if i = j then _ else _) = _
        rw [if_neg hne]
      · show Sub _ (isList _ _ (if j = j then _ else _) :: _)
        rw [if_pos rfl]
        exact (by repeat (first | exact Sub.refl | refine Sub.cons (by with_reducible first | assumption | ((repeat (first | exact .here | apply Take.there)); done)) ?_ | refine Sub.drop ?_))
      · refine ent_eq (fun c9 => ?_) (fun c9 => ?_)
        · have h9 : (B.σ.pop (B.heads j)).2.2.2 = 9 := by have c9 : (((B.σ.pop (B.heads j)).2.2.2 : Nat) : Int) = 9 := c9; omega
          rw [if_pos h9] at hT
          have h0 := pop_nine h9
          have hB : (⟨(B.σ.pop (B.heads j)).1, B.μ, fun i => if i = j then (B.σ.pop (B.heads j)).2.1 else B.heads i⟩ : BS) = B := by
            rw [h0, pop_zero]
            have : (fun i => if i = j then 0 else B.heads i) = B.heads := by
              funext i; split
              · rename_i hi; rw [hi, h0]
              · rfl
            show (⟨B.σ, B.μ, fun i => if i = j then 0 else B.heads i⟩ : BS) = B
            rw [this]
          rw [hB]
          rw [show wI ((j : Int) + 1) = ((B.σ.order + 1 : Nat) : Int) - (n : Int) by rw [wI_of (by omega) (by omega)]; omega]
          exact hk n ⟨by omega, by rw [show B.σ.order + 1 - n = j + 1 by omega]; exact hT⟩ (by omega)
        · have h9 : (B.σ.pop (B.heads j)).2.2.2 ≠ 9 := by have c9 : (((B.σ.pop (B.heads j)).2.2.2 : Nat) : Int) ≠ 9 := c9; omega
          rw [if_neg h9] at hT
          have eight : BS.takeN B t t (B.σ.order + 1 - t) = (⟨(B.σ.pop (B.heads j)).1, B.μ, fun i => if i = j then (B.σ.pop (B.heads j)).2.1 else B.heads i⟩, 0, 8) →
              ent e (isB b s m ⟨(B.σ.pop (B.heads j)).1, B.μ, fun i => if i = j then (B.σ.pop (B.heads j)).2.1 else B.heads i⟩ :: r) (K (0, 8, ())) := fun he => by
            rw [he] at h; exact h
          refine page_ct (B.σ.pop (B.heads j)).2.2.1 rfl hlt.2 (fun p hp hpn => ?_) (fun hnone => ?_)
          · rw [hp] at hT
            refine ent_joinP (A := Unit) (fun _ _ => (B.σ.pop (B.heads j)).2.2.2 = 0) (fun _ => isB b s m ⟨(B.σ.pop (B.heads j)).1, B.μ, fun i => if i = j then (B.σ.pop (B.heads j)).2.1 else B.heads i⟩ :: r) (fun _ q h0 => ?_) (fun k15 hk15 => ?_)
            · simp only at hT
              rw [if_neg (by omega)] at hT
              have hnn := okm.n
              have hpn : p < B.μ.n := hpn
              refine turn_ct p j rfl rfl ?_
              refine cut_ct p j t rfl rfl rfl (by omega) ?_ (by omega) ?_
              · rw [turn_cf.1]; show j ≤ (B.σ.pop (B.heads j)).1.order; rw [hcf.2.2.1]; omega
              · rw [← hT] at h; exact h
            · refine ent_ne (fun c => ?_) (fun c => ?_)
              · have : (B.σ.pop (B.heads j)).2.2.2 ≠ 0 := by have c : (((B.σ.pop (B.heads j)).2.2.2 : Nat) : Int) ≠ 0 := c; omega
                simp only at hT
                rw [if_pos this] at hT
                exact eight hT.symm
              · refine ent_false ?_
                refine hk15 () _ ?_
                have c : (((B.σ.pop (B.heads j)).2.2.2 : Nat) : Int) = 0 := c
                omega
          · rw [hnone] at hT
            refine ent_joinP (A := Unit) (fun _ _ => False) (fun _ => isB b s m ⟨(B.σ.pop (B.heads j)).1, B.μ, fun i => if i = j then (B.σ.pop (B.heads j)).2.1 else B.heads i⟩ :: r) (fun _ q h0 => h0.elim) (fun k15 hk15 => ?_)
            refine ent_ne (fun c => eight hT.symm) (fun c => ?_)
            refine ent_true ?_
            exact eight hT.symm
    · obtain rfl : n = 0 := by have c : (B.σ.order : Int) < ((B.σ.order + 1 : Nat) : Int) - (n : Int) := c; omega
      rw [show BS.takeN B t (B.σ.order + 1 - 0) 0 = (B, 0, 2) from rfl] at hT
      rw [← hT] at h
      exact h
  · refine ent_lt (fun c => bad (by omega)) (fun c => ?_)
    refine ent_B_ld (B.σ.order : Int) ?_ k
    refine ent_gt (fun c2 => bad (by omega)) (fun c2 => ?_)
    exact hkk () _ ⟨⟨c, c2⟩, rfl⟩

/-! ## Live blocks -/

def BS.isLive (B : BS) (p : Nat) (y : Int) : Option Nat := match B.pageOf p with
  | some q => if Pg.kind (B.μ.pages q) = 2 ∧ Pg.order (B.μ.pages q) = y then some q else none
  | none => none

theorem pageOf_lt {p q : Nat} (h : B.pageOf p = some q) : q < B.μ.n := by
  unfold BS.pageOf at h
  split at h
  · rename_i hc; injection h with h; subst h; exact hc.2.2
  · cases h

theorem isLive_el {p q : Nat} {y : Int} (h : B.isLive p y = some q) : B.pageOf p = some q ∧ Pg.kind (B.μ.pages q) = 2 ∧ Pg.order (B.μ.pages q) = y := by
  unfold BS.isLive at h
  split at h
  · rename_i q' hq
    split at h
    · rename_i hc; injection h with h; subst h; exact ⟨hq, hc⟩
    · cases h
  · cases h

theorem live_ct {x y : Int} {K : Tup [sI, sB] → World → Prop} {KP : List PanicEntry → World → Prop} (p : Nat) (hx : x = p) (hp : p < 18446744073709551616)
    (h1 : ∀ q, B.isLive p y = some q → q < B.μ.n → ent e l (K ((q : Int), true, ()))) (h2 : B.isLive p y = none → ∀ v, ent e l (K (v, false, ()))) (k : Take l (isB b s m B) r := by with_reducible first | assumption | ((repeat (first | exact .here | apply Take.there)); done)) :
    ent e l ((wpM PR).call 95 [vP b, vU x, vI y] [sI, sB] K KP) := by
  refine ent_call (fn := Go.Proofs.Try.f95) (by kernel_rfl) ?_
  rw [nf95_eq]
  refine page_ct p hx hp (fun q hq hqn => ?_) (fun hno => ?_) k
  · refine ent_false ?_
    refine ent_B_ld (some ⟨m, 0, none⟩) ?_ k
    refine ent_B (fun okb => ?_) k
    refine at_ct (μ := B.μ) (fun i hi hin => ?_) (fun hno => by omega)
    obtain rfl : q = i := by omega
    refine ent_new fun x4 => ?_
    refine ent_st ?_
    refine ent_blk (Row.vals kPg (B.μ.pages q)) ?_
    refine ent_draw ?_
    refine ent_ld (Pg.kind (B.μ.pages q)) ?_
    have back : ∀ {l' : List HP}, Sub (blk x4 57 (Row.vals kPg (B.μ.pages q)) :: isSpace s B.σ :: isMap m B.μ :: isBud b s m B.σ.base B.σ.limit B.σ.order B.heads :: r) l := fun {l'} =>
      Sub.trans (sub_B B okb (by repeat (first | exact Sub.refl | refine Sub.cons (by with_reducible first | assumption | ((repeat (first | exact .here | apply Take.there)); done)) ?_ | refine Sub.drop ?_))) (Sub.untake k)
    refine ent_eq (fun c => ?_) (fun c => ?_)
    · refine ent_ld (Pg.order (B.μ.pages q)) ?_
      refine ent_sub (back (l' := [])) ?_
      show ent e l (K ((q : Int), (Pg.order (B.μ.pages q) == y), ()))
      by_cases hy : Pg.order (B.μ.pages q) = y
      · rw [show (Pg.order (B.μ.pages q) == y) = true by simpa using hy]
        exact h1 q (by unfold BS.isLive; rw [hq]; exact if_pos ⟨c, hy⟩) hqn
      · rw [show (Pg.order (B.μ.pages q) == y) = false by simpa using hy]
        exact h2 (by unfold BS.isLive; rw [hq]; exact if_neg (fun hc => hy hc.2)) _
    · refine ent_sub (back (l' := [])) ?_
      exact h2 (by unfold BS.isLive; rw [hq]; exact if_neg (fun hc => c hc.1)) _
  · refine ent_true ?_
    exact h2 (by unfold BS.isLive; rw [hno]) _

/-! ## Giving back -/

theorem xor_bud (p k : Nat) : p ^^^ 2 ^ k = Bd.bud k p := by
  have hp : 0 < 2 ^ k := Nat.pow_pos (by omega)
  have h1 : (p ^^^ 2 ^ k) / 2 ^ k = p / 2 ^ k ^^^ 1 := by rw [Nat.xor_div_two_pow, Nat.div_self hp]
  have h2 : (p ^^^ 2 ^ k) % 2 ^ k = p % 2 ^ k := by rw [Nat.xor_mod_two_pow, Nat.mod_self, Nat.xor_zero]
  have h3 : p / 2 ^ k ^^^ 1 = if p / 2 ^ k % 2 = 0 then p / 2 ^ k + 1 else p / 2 ^ k - 1 := by
    generalize p / 2 ^ k = q
    have a : (q ^^^ 1) / 2 = q / 2 := by
      have := Nat.xor_div_two_pow (a := q) (b := 1) (n := 1)
      simpa using this
    have b : (q ^^^ 1) % 2 = (q + 1) % 2 := by
      have := Nat.xor_mod_two_pow (a := q) (b := 1) (n := 1)
      rw [Nat.pow_one] at this
      rw [this]
      rcases Nat.mod_two_eq_zero_or_one q with h | h
      · rw [h, show (q + 1) % 2 = 1 by omega]; decide
      · rw [h, show (q + 1) % 2 = 0 by omega]; decide
    split <;> omega
  have h4 := Nat.div_add_mod (p ^^^ 2 ^ k) (2 ^ k)
  have h5 := Nat.div_add_mod p (2 ^ k)
  rw [h1, h2, h3] at h4
  unfold Bd.bud
  generalize p / 2 ^ k = Q at *
  split
  · rename_i hc
    rw [if_pos hc, Nat.mul_add, Nat.mul_one] at h4; omega
  · rename_i hc
    rw [if_neg hc, Nat.mul_sub, Nat.mul_one] at h4
    have : 2 ^ k ≤ 2 ^ k * Q := Nat.le_mul_of_pos_right _ (by omega)
    generalize 2 ^ k = z at *
    omega

theorem bud_lt {p k : Nat} (hp : p < 2048) (hk : k ≤ 8) : Bd.bud k p < 4096 := by
  have := pow_le8 hk
  unfold Bd.bud
  generalize 2 ^ k = z at *
  split <;> omega

theorem xor_page {p k : Nat} (hp : p < 2048) (hk : k ≤ 8) : wI (((BitVec.ofInt 64 (p : Int) ^^^ BitVec.ofInt 64 ((2 ^ k : Nat) : Int)).toNat : Nat) : Int) = ((Bd.bud k p : Nat) : Int) := by
  have h := pow_le8 hk
  have hb := bud_lt hp hk
  rw [BitVec.toNat_xor, BitVec.toNat_ofInt, BitVec.toNat_ofInt]
  have e3 : ((p : Int) % ((2 ^ 64 : Nat) : Int)).toNat = p := by omega
  have e4 : (((2 ^ k : Nat) : Int) % ((2 ^ 64 : Nat) : Int)).toNat = 2 ^ k := by
    generalize 2 ^ k = q at *; omega
  rw [e3, e4, xor_bud, wI_nat (by omega)]

theorem clr_page {p k : Nat} (hp : p < 2048) (hk : k ≤ 8) : wI (((BitVec.ofInt 64 (p : Int) &&& ~~~BitVec.ofInt 64 ((2 ^ k : Nat) : Int)).toNat : Nat) : Int) = ((min p (Bd.bud k p) : Nat) : Int) := by
  have h := pow_le8 hk
  have e3 : (BitVec.ofInt 64 (p : Int)) = BitVec.ofNat 64 p := BitVec.eq_of_toNat_eq (by rw [BitVec.toNat_ofInt, BitVec.toNat_ofNat]; omega)
  have e4 : (BitVec.ofInt 64 ((2 ^ k : Nat) : Int)) = BitVec.ofNat 64 (2 ^ k) := BitVec.eq_of_toNat_eq (by rw [BitVec.toNat_ofInt, BitVec.toNat_ofNat]; generalize 2 ^ k = q at *; omega)
  have hb : (min p (Bd.bud k p)).testBit k = false ∧ ∀ j, j ≠ k → (min p (Bd.bud k p)).testBit j = p.testBit j := by
    by_cases hc : p / 2 ^ k % 2 = 0
    · have : min p (Bd.bud k p) = p := by unfold Bd.bud; rw [if_pos hc]; exact Nat.min_eq_left (Nat.le_add_right _ _)
      rw [this]
      exact ⟨by rw [Nat.testBit_eq_decide_div_mod_eq]; simp [hc], fun j _ => rfl⟩
    · have : min p (Bd.bud k p) = p ^^^ 2 ^ k := by rw [xor_bud]; unfold Bd.bud; rw [if_neg hc]; exact Nat.min_eq_right (Nat.sub_le _ _)
      rw [this]
      refine ⟨?_, fun j hj => ?_⟩
      · rw [Nat.testBit_xor, Nat.testBit_two_pow, Nat.testBit_eq_decide_div_mod_eq]; simp; omega
      · rw [Nat.testBit_xor, Nat.testBit_two_pow]; simp [Ne.symm hj]
  have hm : min p (Bd.bud k p) < 2 ^ 64 := by omega
  have e5 : BitVec.ofNat 64 p &&& ~~~BitVec.ofNat 64 (2 ^ k) = BitVec.ofNat 64 (min p (Bd.bud k p)) := by
    apply BitVec.eq_of_getLsbD_eq
    intro j hj
    rw [BitVec.getLsbD_and, BitVec.getLsbD_not, BitVec.getLsbD_ofNat, BitVec.getLsbD_ofNat, BitVec.getLsbD_ofNat, Nat.testBit_two_pow]
    by_cases hjk : j = k
    · subst hjk; simp [hb.1]
    · simp [hj, hb.2 j hjk, Ne.symm hjk]
  rw [e3, e4, e5, BitVec.toNat_ofNat, Nat.mod_eq_of_lt hm, wI_nat (by omega)]

/-- A list of blocks without one. -/
def BS.drop (B : BS) (k p : Nat) : BS := ⟨(B.σ.remove (B.heads k) (B.adr p)).1, B.μ, fun i => if i = k then (B.σ.remove (B.heads k) (B.adr p)).2.1 else B.heads i⟩

theorem drop_order {k p : Nat} : (B.drop k p).σ.order = B.σ.order := remove_cf.2.2.1

def BS.giveN (B : BS) (p k : Nat) : Nat → BS × Nat
  | 0 => (B, 0)
  | n + 1 => if (B.turn p k).2 = true then ((B.turn p k).1.enter p k, 0)
    else if ((B.turn p k).1.σ.remove ((B.turn p k).1.heads k) ((B.turn p k).1.adr (Bd.bud k p))).2.2 ≠ 0 then ((B.turn p k).1.drop k (Bd.bud k p), ((B.turn p k).1.σ.remove ((B.turn p k).1.heads k) ((B.turn p k).1.adr (Bd.bud k p))).2.2)
    else ((B.turn p k).1.drop k (Bd.bud k p)).giveN (min p (Bd.bud k p)) (k + 1) n

theorem giveN_succ {p k n : Nat} : B.giveN p k (n + 1) = if (B.turn p k).2 = true then ((B.turn p k).1.enter p k, 0)
    else if ((B.turn p k).1.σ.remove ((B.turn p k).1.heads k) ((B.turn p k).1.adr (Bd.bud k p))).2.2 ≠ 0 then ((B.turn p k).1.drop k (Bd.bud k p), ((B.turn p k).1.σ.remove ((B.turn p k).1.heads k) ((B.turn p k).1.adr (Bd.bud k p))).2.2)
    else ((B.turn p k).1.drop k (Bd.bud k p)).giveN (min p (Bd.bud k p)) (k + 1) n := rfl

/-- Give: the state, the answer. -/
def BS.give (B : BS) (p : Nat) (y : Int) : BS × Nat := match B.isLive p y with
  | none => (B, 1)
  | some q => B.giveN q y.toNat (B.σ.order + 1 - y.toNat)

/-- One list's part, opened and shut: 'drop'. -/
theorem sub_drop {ls : Sl} {ptrs : Nat → Nat} {j p : Nat} {l' : List HP} (okb : B.Ok) (ok : B.σ.Ok) (hj : j ≤ B.σ.order)
    (h : Sub l (isSpace s (B.σ.remove (B.heads j) (B.adr p)).1 :: isMap m B.μ :: blk b 146 [vU B.σ.base, vI B.σ.limit, vI B.σ.order, vP s, vP m, .slice ls.base ls.len ls.cap] ::
      arr 163 sP ls (tab (B.σ.order + 1) fun k => (some ⟨ptrs k, 0, none⟩ : Option Addr)) :: isList (ptrs j) s (B.σ.remove (B.heads j) (B.adr p)).2.1 :: eachBut (B.σ.order + 1) (fun k => isList (ptrs k) s (B.heads k)) j :: l')) :
    Sub l (isB b s m (B.drop j p) :: l') := by
  have hcf := remove_cf (σ := B.σ) (h := B.heads j) (a := B.adr p)
  refine Sub.trans h (sub_B (B.drop j p) ⟨?_, fun i hi => ?_⟩ (Sub.cons (by with_reducible first | assumption | ((repeat (first | exact .here | apply Take.there)); done)) (Sub.cons (by with_reducible first | assumption | ((repeat (first | exact .here | apply Take.there)); done)) (sub_bud (ls := ls) (ptrs := ptrs) (Sub.cons (by with_reducible first | assumption | ((repeat (first | exact .here | apply Take.there)); done)) (Sub.cons (by with_reducible first | assumption | ((repeat (first | exact .here | apply Take.there)); done)) (Sub.each (f := fun k => isList (ptrs k) s (B.heads k)) (show j < B.σ.order + 1 by omega) (fun i hi hne => ?_) ?_)))))) rfl hcf.1.symm hcf.2.1.symm hcf.2.2.1.symm)
  · show B.μ.order = (B.σ.remove (B.heads j) (B.adr p)).1.order
    rw [hcf.2.2.1]; exact okb.order
  · replace hi : i ≤ (B.σ.remove (B.heads j) (B.adr p)).1.order := hi
    rw [hcf.2.2.1] at hi
    show (if i = j then _ else _) < _
    split
    · exact remove_lt ok (okb.heads j hj)
    · exact okb.heads i hi
  · show isList _ _ (if i = j then _ else _) = _
    rw [if_neg hne]
  · show Sub _ (isList _ _ (if j = j then _ else _) :: _)
    rw [if_pos rfl]
    exact (by repeat (first | exact Sub.refl | refine Sub.cons (by with_reducible first | assumption | ((repeat (first | exact .here | apply Take.there)); done)) ?_ | refine Sub.drop ?_))

theorem give_ct {x y : Int} {K : Tup [sI] → World → Prop} {KP : List PanicEntry → World → Prop} (p : Nat) (hx : x = p) (hp : p < 18446744073709551616)
    (h : ent e (isB b s m (B.give p y).1 :: r) (K (((B.give p y).2 : Int), ()))) (k : Take l (isB b s m B) r := by with_reducible first | assumption | ((repeat (first | exact .here | apply Take.there)); done)) :
    ent e l ((wpM PR).call 42 [vP b, vU x, vI y] [sI] K KP) := by
  refine ent_callG (fn := Go.Proofs.Try.f42) (by kernel_rfl) ?_
  rw [nf42_eq]
  refine ent_B_ok (fun okb ok okm => ?_) k
  have ho := ok.order
  have hnn := okm.n
  unfold BS.give at h
  refine live_ct p hx hp (fun q hq hqn => ?_) (fun hno v => ?_) k
  · rw [hq] at h
    have hfit := okm.fits q hqn
    have hy : Pg.order (B.μ.pages q) = y := (isLive_el hq).2.2
    have hy0 := hfit.order0
    have hy1 := hfit.order
    rw [hy] at hy0 hy1
    rw [okb.order] at hy1
    obtain ⟨t, rfl⟩ : ∃ t : Nat, y = t := ⟨y.toNat, by omega⟩
    rw [Int.toNat_natCast] at h
    replace h : ent e (isB b s m (B.giveN q t (B.σ.order + 1 - t)).1 :: r) (K (((B.giveN q t (B.σ.order + 1 - t)).2 : Int), ())) := h
    refine ent_false ?_
    refine ent_loop (S := Nat × BS × Nat × Nat) (fun z => ((0 : Int), (z.2.2.1 : Int), (z.2.2.2 : Int), ())) (fun z => isB b s m z.2.1 :: r)
      (fun z => z.2.2.2 + z.1 = B.σ.order + 1 ∧ 0 < z.1 ∧ z.2.1.giveN z.2.2.1 z.2.2.2 z.1 = B.giveN q t (B.σ.order + 1 - t) ∧ z.2.1.σ.order = B.σ.order ∧ z.2.2.1 < 2048) (fun z => z.1) (B.σ.order + 1 - t, B, q, t) rfl
      ⟨by simp only; omega, by simp only; omega, rfl, rfl, by simp only; omega⟩ (fun _ y => k.stars y) ?_
    rintro kk ⟨n, C, p, j⟩ ⟨hn, hn0, hG, hCo, hp⟩ hk
    simp only at hn hn0 hG hCo hp hk ⊢
    obtain ⟨n, rfl⟩ : ∃ n', n = n' + 1 := ⟨n - 1, by omega⟩
    rw [giveN_succ] at hG
    refine turn_ct p j rfl rfl ?_
    refine ent_not (fun c => ?_) (fun c => ?_)
    · have c : (C.turn p j).2 = false := c
      rw [if_neg (by rw [c]; simp)] at hG
      have hjO : j < B.σ.order := by
        refine Classical.byContradiction fun hjn => ?_
        unfold BS.turn at c
        rw [if_pos (by omega)] at c
        cases c
      have hTo : (C.turn p j).1.σ.order = B.σ.order := by rw [turn_cf.1, hCo]
      refine ent_draw ?_
      refine ent_B_ok (fun okT okTs okTm => ?_)
      refine ent_B fun _ => ?_
      refine ent_bud fun ls ptrs hl => ?_
      refine ent_ld ls ?_
      refine ent_atK (sh := sP) (f := fun k => (some ⟨ptrs k, 0, none⟩ : Option Addr)) j rfl (show j < (C.turn p j).1.σ.order + 1 by omega) fun g hg => ?_
      refine ent_g0 (by omega) ?_
      rw [shl_nat (show j ≤ 62 by omega), xor_page hp (by omega)]
      refine addr_ct (Bd.bud j p) rfl (adr_lt okTs (bud_lt hp (by omega))) ?_
      refine ent_keepT j hg rfl (show j < (C.turn p j).1.σ.order + 1 by omega) ?_
      refine ent_keepB ?_
      refine ent_keep0 ?_
      refine ent_each j (show j < (C.turn p j).1.σ.order + 1 by omega) ?_
      refine ent_sub (l' := isList (ptrs j) s ((C.turn p j).1.heads j) :: isSpace s (C.turn p j).1.σ :: _) (Sub.cons (by with_reducible first | assumption | ((repeat (first | exact .here | apply Take.there)); done)) (Sub.cons (by with_reducible first | assumption | ((repeat (first | exact .here | apply Take.there)); done)) .refl)) ?_
      refine remove_ct ((C.turn p j).1.adr (Bd.bud j p)) .here .here rfl (adr_lt okTs (bud_lt hp (by omega))) ?_
      refine ent_sub (sub_drop (B := (C.turn p j).1) (ls := ls) (ptrs := ptrs) (j := j) (p := Bd.bud j p) (l' := r) okT okTs (by omega) (by repeat (first | exact Sub.refl | refine Sub.cons (by with_reducible first | assumption | ((repeat (first | exact .here | apply Take.there)); done)) ?_ | refine Sub.drop ?_))) ?_
      refine ent_ne (fun c2 => ?_) (fun c2 => ?_)
      · rw [if_pos (by have c2 : ((((C.turn p j).1.σ.remove ((C.turn p j).1.heads j) ((C.turn p j).1.adr (Bd.bud j p))).2.2 : Nat) : Int) ≠ 0 := c2; omega)] at hG
        rw [← hG] at h
        exact h
      · rw [if_neg (by have c2 : ((((C.turn p j).1.σ.remove ((C.turn p j).1.heads j) ((C.turn p j).1.adr (Bd.bud j p))).2.2 : Nat) : Int) = 0 := c2; omega)] at hG
        refine ent_g0 (by omega) ?_
        rw [clr_page hp (by omega), show wI ((j : Int) + 1) = ((j + 1 : Nat) : Int) by rw [wI_of (by omega) (by omega)]; omega]
        exact hk (n, (C.turn p j).1.drop j (Bd.bud j p), min p (Bd.bud j p), j + 1) ⟨by simp only; omega, by simp only; omega, hG, by simp only; rw [drop_order, hTo], by simp only; omega⟩ (by simp only; omega)
    · have c : (C.turn p j).2 = true := c
      rw [if_pos c] at hG
      refine enter_ct (B := (C.turn p j).1) p j rfl rfl (by omega) (by rw [turn_cf.1]; omega) ?_
      rw [← hG] at h
      exact h
  · rw [hno] at h
    refine ent_true ?_
    exact ent_sub (Sub.cons k .refl) h

def BS.shrinkQ (B : BS) (q : Nat) (y z : Int) : BS × Nat := if 0 ≤ z ∧ z ≤ y then (B.cut q y.toNat z.toNat, 0) else (B, 1)

def BS.shrink (B : BS) (p : Nat) (y z : Int) : BS × Nat := match B.isLive p y with
  | none => (B, 1)
  | some q => B.shrinkQ q y z

theorem shrink_ct {x y z : Int} {K : Tup [sI] → World → Prop} {KP : List PanicEntry → World → Prop} (p : Nat) (hx : x = p) (hp : p < 18446744073709551616)
    (h : ent e (isB b s m (B.shrink p y z).1 :: r) (K (((B.shrink p y z).2 : Int), ()))) (k : Take l (isB b s m B) r := by with_reducible first | assumption | ((repeat (first | exact .here | apply Take.there)); done)) :
    ent e l ((wpM PR).call 45 [vP b, vU x, vI y, vI z] [sI] K KP) := by
  refine ent_call (fn := Go.Proofs.Try.f45) (by kernel_rfl) ?_
  rw [nf45_eq]
  refine ent_B_ok (fun okb ok okm => ?_) k
  have hnn := okm.n
  unfold BS.shrink at h
  refine live_ct p hx hp (fun q hq hqn => ?_) (fun hno v => ?_) k
  · rw [hq] at h
    have hfit := okm.fits q hqn
    have hy : Pg.order (B.μ.pages q) = y := (isLive_el hq).2.2
    have hy0 := hfit.order0
    have hy1 := hfit.order
    rw [hy] at hy0 hy1
    rw [okb.order] at hy1
    refine ent_joinP (A := Unit) (fun _ _ => 0 ≤ z ∧ z ≤ y) (fun _ => l) (fun _ _ hc => ?_) (fun kk hkk => ?_)
    · replace h : ent e (isB b s m (B.shrinkQ q y z).1 :: r) (K (((B.shrinkQ q y z).2 : Int), ())) := h
      unfold BS.shrinkQ at h
      rw [if_pos hc] at h
      exact cut_ct q y.toNat z.toNat rfl (by omega) (by omega) (by omega) (by omega) (by omega) h k
    · replace h : ¬ (0 ≤ z ∧ z ≤ y) → ent e l (K (1, ())) := fun hn => by
        replace h : ent e (isB b s m (B.shrinkQ q y z).1 :: r) (K (((B.shrinkQ q y z).2 : Int), ())) := h
        unfold BS.shrinkQ at h
        rw [if_neg hn] at h
        exact ent_sub (Sub.cons k .refl) h
      refine ent_lt (fun c => h (by omega)) (fun c => ?_)
      refine ent_gt (fun c2 => h (by omega)) (fun c2 => ?_)
      refine ent_false ?_
      exact hkk () _ ⟨c, c2⟩
  · rw [hno] at h
    refine ent_joinP (A := Unit) (fun _ _ => False) (fun _ => l) (fun _ _ hc => hc.elim) (fun kk hkk => ?_)
    have h' : ent e l (K (1, ())) := ent_sub (Sub.cons k .refl) h
    refine ent_lt (fun c => h') (fun c => ?_)
    refine ent_gt (fun c2 => h') (fun c2 => ?_)
    exact ent_true h'

/-! ## The topmost region -/

/-- Space and map are one, and there is a region. -/
def BS.topped (B : BS) : Prop := 0 < B.σ.n ∧ B.μ.n = B.σ.n * 2 ^ B.σ.order

def BS.topPage (B : BS) : Nat := B.σ.n * 2 ^ B.σ.order - 2 ^ B.σ.order

theorem topped_le (ok : B.σ.Ok) (h : B.topped) : 2 ^ B.σ.order ≤ B.σ.n * 2 ^ B.σ.order ∧ B.σ.n * 2 ^ B.σ.order ≤ 1024 := by
  have h1 : B.σ.n * 2 ^ B.σ.order ≤ B.σ.limit * 2 ^ B.σ.order := Nat.mul_le_mul_right _ ok.n
  have := ok.limit
  exact ⟨Nat.le_mul_of_pos_left _ h.1, by omega⟩

theorem top_ct {K : Tup [sI, sB] → World → Prop} {KP : List PanicEntry → World → Prop}
    (h1 : B.topped → ent e l (K ((B.topPage : Int), true, ()))) (h2 : ¬ B.topped → ∀ v, ent e l (K (v, false, ()))) (k : Take l (isB b s m B) r := by with_reducible first | assumption | ((repeat (first | exact .here | apply Take.there)); done)) :
    ent e l ((wpM PR).call 79 [vP b] [sI, sB] K KP) := by
  refine ent_call (fn := Go.Proofs.Try.f79) (by kernel_rfl) ?_
  rw [nf79_eq]
  refine ent_B_ok (fun okb ok okm => ?_) k
  have ho := ok.order
  have hpw := pow_le8 ho
  have hp0 : 0 < 2 ^ B.σ.order := Nat.pow_pos (by omega)
  have hmul : B.σ.n * 2 ^ B.σ.order ≤ 1024 := by
    have : B.σ.n * 2 ^ B.σ.order ≤ B.σ.limit * 2 ^ B.σ.order := Nat.mul_le_mul_right _ ok.n
    have := ok.limit
    omega
  have hnn := okm.n
  refine ent_draw ?_
  refine ent_B_ld (some ⟨s, 0, none⟩) ?_ k
  refine ent_B_ld (B.σ.order : Int) ?_ k
  refine ent_B (fun okb => ?_) k
  refine regions_ct .here ?_
  refine ent_sub (Sub.trans (sub_B B okb (by repeat (first | exact Sub.refl | refine Sub.cons (by with_reducible first | assumption | ((repeat (first | exact .here | apply Take.there)); done)) ?_ | refine Sub.drop ?_))) (Sub.untake k)) ?_
  refine ent_B_keep ?_ k
  refine ent_keep0 ?_
  refine ent_g0 (by omega) ?_
  refine ent_draw ?_
  refine ent_B_ld (B.σ.order : Int) ?_ k
  refine ent_g0 (by omega) ?_
  have e1 : wI ((B.σ.n : Int) * 2 ^ min (B.σ.order : Int).toNat 64) = ((B.σ.n * 2 ^ B.σ.order : Nat) : Int) := by
    rw [Int.toNat_natCast, Nat.min_eq_left (by omega), show (B.σ.n : Int) * 2 ^ B.σ.order = ((B.σ.n * 2 ^ B.σ.order : Nat) : Int) by simp, wI_nat (by omega)]
  rw [e1, shl_nat (show B.σ.order ≤ 62 by omega)]
  refine ent_gt (fun c => ?_) (fun c => ?_)
  · have hn0 : 0 < B.σ.n := by
      rcases Nat.eq_zero_or_pos B.σ.n with h | h
      · rw [h, Nat.zero_mul] at c; omega
      · exact h
    have hle : 2 ^ B.σ.order ≤ B.σ.n * 2 ^ B.σ.order := Nat.le_mul_of_pos_left _ hn0
    refine ent_B_ld (some ⟨m, 0, none⟩) ?_ k
    refine ent_B (fun okb => ?_) k
    refine pages_ct ?_
    refine ent_sub (Sub.trans (sub_B B okb (by repeat (first | exact Sub.refl | refine Sub.cons (by with_reducible first | assumption | ((repeat (first | exact .here | apply Take.there)); done)) ?_ | refine Sub.drop ?_))) (Sub.untake k)) ?_
    refine ent_B_keep ?_ k
    refine ent_keep0 ?_
    have e2 : wI (((B.σ.n * 2 ^ B.σ.order : Nat) : Int) - ((2 ^ B.σ.order : Nat) : Int)) = (B.topPage : Int) := by
      unfold BS.topPage
      generalize B.σ.n * 2 ^ B.σ.order = z at *
      generalize 2 ^ B.σ.order = y at *
      rw [wI_of (by omega) (by omega)]; omega
    rw [e2]
    show ent e l (K ((B.topPage : Int), ((B.μ.n : Int) == ((B.σ.n * 2 ^ B.σ.order : Nat) : Int)), ()))
    by_cases hc : B.μ.n = B.σ.n * 2 ^ B.σ.order
    · rw [show ((B.μ.n : Int) == ((B.σ.n * 2 ^ B.σ.order : Nat) : Int)) = true by simpa using congrArg (fun z : Nat => (z : Int)) hc]
      exact h1 ⟨hn0, hc⟩
    · rw [show ((B.μ.n : Int) == ((B.σ.n * 2 ^ B.σ.order : Nat) : Int)) = false from beq_eq_false_iff_ne.2 (fun e => hc (by omega))]
      exact h2 (fun h => hc h.2) _
  · refine h2 (fun h => ?_) _
    have hle : 2 ^ B.σ.order ≤ B.σ.n * 2 ^ B.σ.order := Nat.le_mul_of_pos_left _ h.1
    omega

instance (B : BS) : Decidable B.topped := inferInstanceAs (Decidable (_ ∧ _))

def BS.feed (B : BS) : BS × Nat := if B.topped then ((B.give (B.adr B.topPage) B.σ.order).1, if (B.give (B.adr B.topPage) B.σ.order).2 = 1 then 9 else (B.give (B.adr B.topPage) B.σ.order).2) else (B, 9)

theorem feed_ct {K : Tup [sI] → World → Prop} {KP : List PanicEntry → World → Prop}
    (h : ent e (isB b s m B.feed.1 :: r) (K ((B.feed.2 : Int), ()))) (k : Take l (isB b s m B) r := by with_reducible first | assumption | ((repeat (first | exact .here | apply Take.there)); done)) :
    ent e l ((wpM PR).call 23 [vP b] [sI] K KP) := by
  refine ent_call (fn := Go.Proofs.Try.f23) (by kernel_rfl) ?_
  rw [nf23_eq]
  refine ent_B_ok (fun okb ok okm => ?_) k
  unfold BS.feed at h
  refine top_ct (fun ht => ?_) (fun ht v => ?_) k
  · rw [if_pos ht] at h
    have hle := topped_le ok ht
    refine ent_false ?_
    refine ent_draw ?_
    refine ent_B_ld (B.σ.order : Int) ?_ k
    have htp : B.topPage < 4096 := by
      unfold BS.topPage
      generalize B.σ.n * 2 ^ B.σ.order = z at *
      generalize 2 ^ B.σ.order = y at *
      omega
    refine address_ct B.topPage rfl htp ?_ k
    refine ent_B_keep ?_ k
    refine ent_keep0 ?_
    refine give_ct (B.adr B.topPage) rfl (adr_lt ok htp) ?_ k
    refine ent_eq (fun c => ?_) (fun c => ?_)
    · have c : (B.give (B.adr B.topPage) B.σ.order).2 = 1 := by have c : (((B.give (B.adr B.topPage) B.σ.order).2 : Nat) : Int) = 1 := c; omega
      simp only [c, if_true] at h
      exact h
    · have c : (B.give (B.adr B.topPage) B.σ.order).2 ≠ 1 := by have c : (((B.give (B.adr B.topPage) B.σ.order).2 : Nat) : Int) ≠ 1 := c; omega
      simp only [c, if_false] at h
      exact h
  · rw [if_neg ht] at h
    refine ent_true ?_
    exact ent_sub (Sub.cons k .refl) h

def BS.pull (B : BS) : BS × Nat :=
  if B.topped ∧ Pg.kind (B.μ.pages B.topPage) = 0 ∧ Pg.order (B.μ.pages B.topPage) = B.σ.order then
    (if (B.σ.remove (B.heads B.σ.order) (B.adr B.topPage)).2.2 ≠ 0 then (B.drop B.σ.order B.topPage, (B.σ.remove (B.heads B.σ.order) (B.adr B.topPage)).2.2)
      else (⟨(B.drop B.σ.order B.topPage).σ, B.μ.runI B.topPage B.σ.order 2, (B.drop B.σ.order B.topPage).heads⟩, 0)) else (B, 9)

theorem pull_ct {K : Tup [sI] → World → Prop} {KP : List PanicEntry → World → Prop}
    (h : ent e (isB b s m B.pull.1 :: r) (K ((B.pull.2 : Int), ()))) (k : Take l (isB b s m B) r := by with_reducible first | assumption | ((repeat (first | exact .here | apply Take.there)); done)) :
    ent e l ((wpM PR).call 46 [vP b] [sI] K KP) := by
  refine ent_call (fn := Go.Proofs.Try.f46) (by kernel_rfl) ?_
  rw [nf46_eq]
  refine ent_B_ok (fun okb ok okm => ?_) k
  have ho := ok.order
  unfold BS.pull at h
  have nine : ¬ (B.topped ∧ Pg.kind (B.μ.pages B.topPage) = 0 ∧ Pg.order (B.μ.pages B.topPage) = B.σ.order) → ent e l (K (9, ())) := fun hn => by
    rw [if_neg hn] at h
    exact ent_sub (Sub.cons k .refl) h
  refine top_ct (fun ht => ?_) (fun ht v => ?_) k
  · have hle := topped_le ok ht
    have htp : B.topPage < 1024 := by
      have : 0 < 2 ^ B.σ.order := Nat.pow_pos (by omega)
      unfold BS.topPage
      generalize B.σ.n * 2 ^ B.σ.order = z at *
      generalize 2 ^ B.σ.order = y at *
      omega
    have htn : B.topPage < B.μ.n := by
      rw [ht.2]; unfold BS.topPage
      have : 0 < 2 ^ B.σ.order := Nat.pow_pos (by omega)
      generalize B.σ.n * 2 ^ B.σ.order = z at *
      generalize 2 ^ B.σ.order = y at *
      omega
    refine ent_false ?_
    refine ent_joinP (A := Nat) (fun _ _ => Pg.kind (B.μ.pages B.topPage) = 0 ∧ Pg.order (B.μ.pages B.topPage) = B.σ.order) (fun x18 => blk x18 57 (Row.vals kPg (B.μ.pages B.topPage)) :: l) (fun x18 _ hc => ?_) (fun kk hkk => ?_)
    · rw [if_pos ⟨ht, hc⟩] at h
      refine ent_drop ?_
      refine ent_draw ?_
      refine ent_B (fun _ => ?_) k
      refine ent_bud fun ls ptrs hl => ?_
      refine ent_ld ls ?_
      refine ent_ld (B.σ.order : Int) ?_
      refine ent_atK (sh := sP) (f := fun k => (some ⟨ptrs k, 0, none⟩ : Option Addr)) B.σ.order rfl (show B.σ.order < B.σ.order + 1 by omega) fun g hg => ?_
      refine addr_ct B.topPage rfl (adr_lt ok (by omega)) ?_
      refine ent_keepT B.σ.order hg rfl (show B.σ.order < B.σ.order + 1 by omega) ?_
      refine ent_keepB ?_
      refine ent_keepB ?_
      refine ent_keep0 ?_
      refine ent_each B.σ.order (show B.σ.order < B.σ.order + 1 by omega) ?_
      refine ent_sub (l' := isList (ptrs B.σ.order) s (B.heads B.σ.order) :: isSpace s B.σ :: _) (Sub.cons (by with_reducible first | assumption | ((repeat (first | exact .here | apply Take.there)); done)) (Sub.cons (by with_reducible first | assumption | ((repeat (first | exact .here | apply Take.there)); done)) .refl)) ?_
      refine remove_ct (B.adr B.topPage) .here .here rfl (adr_lt ok (by omega)) ?_
      refine ent_sub (sub_drop (B := B) (ls := ls) (ptrs := ptrs) (j := B.σ.order) (p := B.topPage) (l' := r) okb ok (Nat.le_refl _) (by repeat (first | exact Sub.refl | refine Sub.cons (by with_reducible first | assumption | ((repeat (first | exact .here | apply Take.there)); done)) ?_ | refine Sub.drop ?_))) ?_
      refine ent_ne (fun c => ?_) (fun c => ?_)
      · rw [if_pos (by have c : (((B.σ.remove (B.heads B.σ.order) (B.adr B.topPage)).2.2 : Nat) : Int) ≠ 0 := c; omega)] at h
        exact h
      · rw [if_neg (by have c : (((B.σ.remove (B.heads B.σ.order) (B.adr B.topPage)).2.2 : Nat) : Int) = 0 := c; omega)] at h
        have hdo : (B.drop B.σ.order B.topPage).σ.order = B.σ.order := drop_order
        refine ent_draw ?_
        refine ent_B_ld (some ⟨m, 0, none⟩) ?_
        refine ent_B_ld ((B.drop B.σ.order B.topPage).σ.order : Int) ?_
        refine ent_B fun okd => ?_
        refine runI_ct B.topPage B.σ.order rfl (by rw [hdo]) (.inr rfl) fun _ => ?_
        refine ent_sub (sub_B ⟨(B.drop B.σ.order B.topPage).σ, B.μ.runI B.topPage B.σ.order 2, (B.drop B.σ.order B.topPage).heads⟩ ⟨?_, okd.heads⟩ (by repeat (first | exact Sub.refl | refine Sub.cons (by with_reducible first | assumption | ((repeat (first | exact .here | apply Take.there)); done)) ?_ | refine Sub.drop ?_))) h
        show (B.μ.runI B.topPage B.σ.order 2).order = _
        rw [Mp.runI_order]; exact okd.order
    · refine ent_B_ld (some ⟨m, 0, none⟩) ?_ k
      refine ent_B (fun okb => ?_) k
      refine at_ct (μ := B.μ) (fun i hi hin => ?_) (fun hno => by omega)
      obtain rfl : B.topPage = i := by omega
      refine ent_new fun x4 => ?_
      refine ent_st ?_
      refine ent_blk (Row.vals kPg (B.μ.pages B.topPage)) ?_
      refine ent_draw ?_
      refine ent_ld (Pg.kind (B.μ.pages B.topPage)) ?_
      have back : Sub (blk x4 57 (Row.vals kPg (B.μ.pages B.topPage)) :: isSpace s B.σ :: isMap m B.μ :: isBud b s m B.σ.base B.σ.limit B.σ.order B.heads :: r) l :=
        Sub.trans (sub_B B okb (by repeat (first | exact Sub.refl | refine Sub.cons (by with_reducible first | assumption | ((repeat (first | exact .here | apply Take.there)); done)) ?_ | refine Sub.drop ?_))) (Sub.untake k)
      refine ent_ne (fun c => ent_sub back (nine fun hc => c hc.2.1)) (fun c => ?_)
      refine ent_ld (Pg.order (B.μ.pages B.topPage)) ?_
      refine ent_sub (l' := blk x4 57 (Row.vals kPg (B.μ.pages B.topPage)) :: l) (Sub.cons .here (Sub.trans (sub_B B okb (by repeat (first | exact Sub.refl | refine Sub.cons (by with_reducible first | assumption | ((repeat (first | exact .here | apply Take.there)); done)) ?_ | refine Sub.drop ?_))) (Sub.untake k))) ?_
      refine ent_B_ld (B.σ.order : Int) ?_ (.there k)
      refine ent_ne (fun c2 => ent_drop (nine fun hc => c2 hc.2.2)) (fun c2 => ?_)
      exact hkk x4 _ ⟨c, c2⟩
  · refine ent_true ?_
    exact nine fun hc => ht hc.1

/-! ## Heads; opening -/

theorem head_elem : Elem PR 59 22 sU 0 8 := u64_elem
theorem lists_elem : Elem PR 144 163 sP none 8 := .of (by kernel_rfl) (by kernel_rfl)

theorem heads_ct {K : Tup [sS] → World → Prop} {KP : List PanicEntry → World → Prop}
    (h : ∀ q : Sl, ent e (arr 22 sU q (tab (B.σ.order + 1) fun k => (B.heads k : Int)) :: l) (K (q, ()))) (k : Take l (isB b s m B) r := by with_reducible first | assumption | ((repeat (first | exact .here | apply Take.there)); done)) :
    ent e l ((wpM PR).call 40 [vP b] [sS] K KP) := by
  refine ent_call (fn := Go.Proofs.Try.f40) (by kernel_rfl) ?_
  rw [nf40_eq]
  refine ent_B_ok (fun okb ok okm => ?_) k
  have ho := ok.order
  refine ent_B (fun _ => ?_) k
  refine ent_bud fun ls ptrs hl => ?_
  refine ent_ld ls ?_
  refine ent_make' u64_elem 0 (B.σ.order + 1) rfl (by rw [hl]) (Nat.zero_le _) (by omega) (by omega) fun s2 hl2 hc2 => ?_
  refine ent_ld ls ?_ (.there .here)
  refine ent_loop (S := Nat × Sl) (fun j => (⟨j.2.base, j.2.len, j.2.cap⟩, (j.1 : Int), ())) (fun j => arr 22 sU j.2 (tab j.1 fun k => (B.heads k : Int)) :: blk b 146 [vU B.σ.base, vI B.σ.limit, vI B.σ.order, vP s, vP m, .slice ls.base ls.len ls.cap] ::
      arr 163 sP ls (tab (B.σ.order + 1) fun k => (some ⟨ptrs k, 0, none⟩ : Option Addr)) :: each (B.σ.order + 1) (fun k => isList (ptrs k) s (B.heads k)) :: isSpace s B.σ :: isMap m B.μ :: r) (fun j => j.1 ≤ B.σ.order + 1) (fun j => B.σ.order + 1 - j.1) (0, s2) rfl (Nat.zero_le _) ?_ ?_
  · intro hh y; exact y
  · rintro kk ⟨j, q⟩ hj hk
    simp only at hj hk ⊢
    refine ent_lt (fun c => ?_) (fun c => ?_)
    · have hjO : j < B.σ.order + 1 := by have c : (j : Int) < (ls.len : Int) := c; omega
      refine ent_atT (sh := sP) (f := fun k => (some ⟨ptrs k, 0, none⟩ : Option Addr)) j rfl hjO ?_
      refine ent_each j hjO ?_
      refine head_ct .here ?_
      refine ent_new fun x9 => ?_
      refine ent_append1 (xs := tab j fun k => (B.heads k : Int)) u64_elem rfl (by decide) (B.heads j : Int) (.there (.there (.there .here))) .here rfl (by rw [tab_len]; omega) (by rw [tab_len]; omega) fun s8 hs8 => ?_
      rw [← tab_succ, show wI ((j : Int) + 1) = ((j + 1 : Nat) : Int) by rw [wI_of (by omega) (by omega)]; omega]
      refine ent_sub ?_ (hk (j + 1, s8) (by simp only; omega) (by simp only; omega))
      exact Sub.cons (by with_reducible first | assumption | ((repeat (first | exact .here | apply Take.there)); done)) (Sub.cons (by with_reducible first | assumption | ((repeat (first | exact .here | apply Take.there)); done)) (Sub.cons (by with_reducible first | assumption | ((repeat (first | exact .here | apply Take.there)); done)) (Sub.each (f := fun k => isList (ptrs k) s (B.heads k)) hjO (fun _ _ _ => rfl) (by repeat (first | exact Sub.refl | refine Sub.cons (by with_reducible first | assumption | ((repeat (first | exact .here | apply Take.there)); done)) ?_ | refine Sub.drop ?_)))))
    · obtain rfl : j = B.σ.order + 1 := by have c : (ls.len : Int) ≤ (j : Int) := c; omega
      refine ent_cap .here fun hq1 hq2 => ?_
      rw [tab_len] at hq1
      refine ent_guard (show (0 : Int) ≤ 0 ∧ 0 ≤ (q.len : Int) ∧ (q.len : Int) ≤ (q.len : Int) ∧ (q.len : Int) ≤ (q.cap : Int) by omega) ?_
      have hb : (if q.len = 0 then q.base else q.base.map fun x => x.add 0) = q.base := base_zero
      refine ent_sub (l' := arr 22 sU ⟨q.base, q.len, q.len⟩ (tab (B.σ.order + 1) fun k => (B.heads k : Int)) :: l) ?_ ?_
      · refine Sub.trans (Sub.cons .here (Sub.trans (sub_B B okb (Sub.cons (by with_reducible first | assumption | ((repeat (first | exact .here | apply Take.there)); done)) (Sub.cons (by with_reducible first | assumption | ((repeat (first | exact .here | apply Take.there)); done)) (sub_bud (ls := ls) (ptrs := ptrs) (by repeat (first | exact Sub.refl | refine Sub.cons (by with_reducible first | assumption | ((repeat (first | exact .here | apply Take.there)); done)) ?_ | refine Sub.drop ?_)))))) (Sub.untake k))) ?_
        intro hh y
        refine cons_part (star_mono (fun _ z => ?_) (fun _ z => z) (part_cons y))
        rcases z with ⟨e1, e2, he⟩ | ⟨g, rest, e1, e2, e3, e4, ha⟩
        · have := congrArg List.length e2; rw [tab_len] at this; simp at this
        · refine .inr ⟨g, rest, e1, e2, Nat.le_refl _, ?_, ha⟩
          refine Nat.le_trans ?_ e4
          exact Nat.mul_le_mul_right _ e3
      · have := h ⟨q.base, q.len, q.len⟩
        show ent e _ (K (⟨if q.len = 0 then q.base else q.base.map fun x => x.add 0, q.len - 0, q.len - 0⟩, ()))
        rw [hb]
        exact this

theorem openB_ct {x y z : Int} {q : Sl} {n : Nat} {f : Nat → Nat} {μ : Mp} {σ : Sp} {K : Tup [sP, sI] → World → Prop} {KP : List PanicEntry → World → Prop} {r1 r2 : List HP}
    (hx : x = σ.base) (hy : y = σ.limit) (hz : z = σ.order) (hμ : μ.order = σ.order) (hn : n ≤ 100) (hf : ∀ i, i < n → f i < 18446744073709551616)
    (h1 : n = σ.order + 1 → ∀ b, ent e (isB b s m ⟨σ, μ, f⟩ :: r2) (K (some ⟨b, 0, none⟩, 0, ()))) (h2 : n ≠ σ.order + 1 → ent e l (K (none, 7, ())))
    (k : Take l (arr 22 sU q (tab n fun k => (f k : Int))) r := by with_reducible first | assumption | ((repeat (first | exact .here | apply Take.there)); done)) (ks : Take r (isSpace s σ) r1 := by with_reducible first | assumption | ((repeat (first | exact .here | apply Take.there)); done)) (km : Take r1 (isMap m μ) r2 := by with_reducible first | assumption | ((repeat (first | exact .here | apply Take.there)); done)) :
    ent e l ((wpM PR).call 77 [.agg #[vU x, vI y, vI z], vP s, vP m, .slice q.base q.len q.cap] [sP, sI] K KP) := by
  subst hx hy hz
  refine ent_call (fn := Go.Proofs.Try.f77) (by kernel_rfl) ?_
  rw [nf77_eq]
  refine ent_space_ok (.there ks) (l := _ :: r) ?_ |> fun hh => ent_sub (Sub.cons k .refl) hh
  intro ok
  have ho := ok.order
  refine ent_new fun x1 => ?_
  refine ent_ld (σ.order : Int) ?_
  refine ent_len (.there .here) fun hl => ?_
  rw [tab_len] at hl
  rw [wI_of (by omega) (by omega)]
  refine ent_ne (fun c => ?_) (fun c => ?_)
  · exact ent_drop (ent_sub (Sub.untake k) (h2 (by omega)))
  · have hno : n = σ.order + 1 := by omega
    refine ent_ldA ((σ.base : Int), (σ.limit : Int), (σ.order : Int), ()) ?_
    refine ent_new fun b => ?_
    refine ent_sub (l' := blk b 146 [vU σ.base, vI σ.limit, vI σ.order, vP s, vP m, .slice none 0 0] :: arr 22 sU q (tab n fun k => (f k : Int)) :: r) (Sub.cons (by with_reducible first | assumption | ((repeat (first | exact .here | apply Take.there)); done)) (Sub.drop .refl)) ?_
    refine ent_loop (S := Nat × Sl × (Nat → Nat)) (fun j => ((j.1 : Int), ())) (fun j => blk b 146 [vU σ.base, vI σ.limit, vI σ.order, vP s, vP m, .slice j.2.1.base j.2.1.len j.2.1.cap] :: arr 163 sP j.2.1 (tab j.1 fun k => (some ⟨j.2.2 k, 0, none⟩ : Option Addr)) ::
      each j.1 (fun k => isList (j.2.2 k) s (f k)) :: arr 22 sU q (tab n fun k => (f k : Int)) :: r) (fun j => j.1 ≤ n) (fun j => n - j.1) (0, ⟨none, 0, 0⟩, fun _ => 0) rfl (Nat.zero_le _) ?_ ?_
    · intro hh y
      exact star_mono (fun _ z => z) (fun _ z => emp_star_arr (emp_star_each z)) y
    · rintro kk ⟨j, ls, ptrs⟩ hj hk
      simp only at hj hk ⊢
      refine ent_lt (fun c => ?_) (fun c => ?_)
      · have hjO : j < n := by have c : (j : Int) < (q.len : Int) := c; omega
        refine ent_atT (sh := sU) (f := fun k => (f k : Int)) j rfl hjO ?_
        refine ent_draw ?_
        refine ent_ld ls ?_
        refine newList_ct (f j) rfl fun p => ?_
        refine ent_keepB ?_
        refine ent_keep0 ?_
        refine ent_new fun x11 => ?_
        refine ent_keepB ?_
        refine ent_keep0 ?_
        refine ent_append1 (xs := tab j fun k => (some ⟨ptrs k, 0, none⟩ : Option Addr)) lists_elem rfl (by decide) (some ⟨p, 0, none⟩) (.there (.there (.there .here))) .here rfl (by rw [tab_len]; omega) (by rw [tab_len]; omega) fun s8 hs8 => ?_
        rw [tab_snoc]
        refine ent_st ?_
        refine ent_blk [vU σ.base, vI σ.limit, vI σ.order, vP s, vP m, .slice s8.base s8.len s8.cap] ?_
        rw [show wI ((j : Int) + 1) = ((j + 1 : Nat) : Int) by rw [wI_of (by omega) (by omega)]; omega]
        refine ent_sub ?_ (hk (j + 1, s8, set1 ptrs j p) (by simp only; omega) (by simp only; omega))
        simp only
        rw [tab_congr (n := j + 1) (g := fun k => (some ⟨set1 ptrs j p k, 0, none⟩ : Option Addr)) (fun i hi => ?_)]
        · refine Sub.cons (by with_reducible first | assumption | ((repeat (first | exact .here | apply Take.there)); done)) (Sub.cons (by with_reducible first | assumption | ((repeat (first | exact .here | apply Take.there)); done)) (Sub.each_snoc ?_))
          rw [set1_same]
          refine Sub.cons (r := each j (fun k => isList (ptrs k) s (f k)) :: arr 22 sU q (tab n fun k => (f k : Int)) :: r) .here (Sub.each_congr (f := fun k => isList (ptrs k) s (f k)) (fun i hi => ?_) .refl)
          rw [set1_other (by omega)]
        · by_cases hij : i = j
          · subst hij; rw [set1_same, set1_same]
          · rw [set1_other hij, set1_other hij]
      · obtain rfl : j = n := by have c : (q.len : Int) ≤ (j : Int) := c; omega
        subst hno
        refine ent_sub ?_ (h1 rfl b)
        refine Sub.trans (Sub.cons .here (Sub.cons .here (Sub.cons .here (Sub.drop (Sub.cons ks (Sub.cons km .refl)))))) ?_
        exact sub_B ⟨σ, μ, f⟩ ⟨hμ, fun k hk => hf k (by have hk : k ≤ σ.order := hk; omega)⟩ (Sub.cons (by with_reducible first | assumption | ((repeat (first | exact .here | apply Take.there)); done)) (Sub.cons (by with_reducible first | assumption | ((repeat (first | exact .here | apply Take.there)); done)) (sub_bud (ls := ls) (ptrs := ptrs) (by repeat (first | exact Sub.refl | refine Sub.cons (by with_reducible first | assumption | ((repeat (first | exact .here | apply Take.there)); done)) ?_ | refine Sub.drop ?_)))))

theorem newB_ct {x y z : Int} {μ : Mp} {σ : Sp} {K : Tup [sP] → World → Prop} {KP : List PanicEntry → World → Prop} {r1 r2 : List HP}
    (hx : x = σ.base) (hy : y = σ.limit) (hz : z = σ.order) (hμ : μ.order = σ.order)
    (h : ∀ b, ent e (isB b s m ⟨σ, μ, fun _ => 0⟩ :: r2) (K (some ⟨b, 0, none⟩, ())))
    (ks : Take l (isSpace s σ) r1 := by with_reducible first | assumption | ((repeat (first | exact .here | apply Take.there)); done)) (km : Take r1 (isMap m μ) r2 := by with_reducible first | assumption | ((repeat (first | exact .here | apply Take.there)); done)) :
    ent e l ((wpM PR).call 75 [.agg #[vU x, vI y, vI z], vP s, vP m] [sP] K KP) := by
  subst hx hy hz
  refine ent_call (fn := Go.Proofs.Try.f75) (by kernel_rfl) ?_
  rw [nf75_eq]
  refine ent_space_ok ks fun ok => ?_
  have ho := ok.order
  refine ent_new fun x1 => ?_
  refine ent_draw ?_
  refine ent_ldA ((σ.base : Int), (σ.limit : Int), (σ.order : Int), ()) ?_
  refine ent_ld (σ.order : Int) ?_
  rw [wI_of (by omega) (by omega), if_pos (by omega)]
  refine ent_make' u64_elem (σ.order + 1) (σ.order + 1) (by omega) (by omega) (Nat.le_refl _) (by omega) (by omega) fun s4 hl4 hc4 => ?_
  refine ent_keepS (fun w hw => hw.rowAt (.there .here) fun i u hu => by rw [Nat.zero_add]; exact hu) ?_
  refine ent_keep0 ?_
  rw [tab_replicate]
  refine openB_ct (f := fun _ => 0) (n := σ.order + 1) rfl rfl rfl hμ (by omega) (fun _ _ => by omega) (fun _ b => ?_) (fun hno => absurd rfl hno) .here (.there ks) (.there km)
  exact ent_sub (Sub.cons .here (Sub.drop .refl)) (h b)

end Go.Proofs.Ytdmfnlcbfmahhaa
