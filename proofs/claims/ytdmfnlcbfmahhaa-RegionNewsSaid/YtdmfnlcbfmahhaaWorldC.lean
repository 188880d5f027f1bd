/- The world of the statements of layer 5: a space, a map, a buddy over both, and the document's. -/
import Derived.Test.YtdmfnlcbfmahhaaRefC
namespace Go.Proofs.Ytdmfnlcbfmahhaa
open Go Hl Bd
set_option maxRecDepth 100000

variable {e : Still} {l r : List HP} {X : World → Prop}

abbrev noS : Nat → Prop := fun _ => False

abbrev wRow (base limit order s m b O pages : Nat) (fs ls : Sl) : List Value :=
  [vU base, vI limit, vI order, vP s, vP m, vP b, vI O, vI pages, .slice fs.base fs.len fs.cap, .slice ls.base ls.len ls.cap]

abbrev wBlk (w b s m : Nat) (σ : Sp) (d0 : D) (fs ls : Sl) : HP := blk w 38 (wRow σ.base σ.limit σ.order s m b d0.O d0.pages fs ls)

def isW (w b s m : Nat) (σ : Sp) (d d0 : D) : HP := ex fun q : Sl × Sl => all [fact (d0.O = d.O ∧ d0.pages = d.pages),
  wBlk w b s m σ d0 q.1 q.2, isG noS b s m σ d, isFree d0.O q.1 d0.free, isLiveL q.2 d0.live]

variable {w b s m : Nat} {σ : Sp} {d d0 : D}

theorem ent_W (h : ∀ fs ls : Sl, d0.O = d.O → d0.pages = d.pages → ent e (wBlk w b s m σ d0 fs ls :: isG noS b s m σ d :: isFree d0.O fs d0.free :: isLiveL ls d0.live :: r) X) (k : Take l (isW w b s m σ d d0) r := by with_reducible first | assumption | ((repeat (first | exact .here | apply Take.there)); done)) : ent e l X := by
  refine ent_ex k fun q => ent_all .here ?_
  exact ent_fact .here fun hr => h q.1 q.2 hr.1 hr.2

theorem sub_W {fs ls : Sl} {l' : List HP} (h1 : d0.O = d.O) (h2 : d0.pages = d.pages) (h : Sub l (wBlk w b s m σ d0 fs ls :: isG noS b s m σ d :: isFree d0.O fs d0.free :: isLiveL ls d0.live :: l')) : Sub l (isW w b s m σ d d0 :: l') :=
  Sub.ex (fs, ls) (Sub.all (Sub.fact ⟨h1, h2⟩ h))

theorem ent_G_facts (h : σ.Ok → d.O = σ.order → Inv d none → d.pages ≤ σ.n * 2 ^ σ.order → ent e l X) (k : Take l (isG noS b s m σ d) r := by with_reducible first | assumption | ((repeat (first | exact .here | apply Take.there)); done)) : ent e l X :=
  ent_G_rep (fun _ _ R => h R.sok R.ord R.inv R.mem) k

theorem ent_keepA {b : Nat} {t : TypeId} {vs us : List Value} {fs : List (Addr × List Value)} {x : World → Prop} (h : ent e l ((wpM PR).keep fs x)) (k : Take l (blk b t vs) r := by with_reducible first | assumption | ((repeat (first | exact .here | apply Take.there)); done)) (hv : vs = us := by rfl) :
    ent e l ((wpM PR).keep ((⟨b, 0, none⟩, us) :: fs) x) :=
  ent_keepS (fun w hw => hw.rowAt k fun i u hu => by rw [Nat.zero_add, hv]; exact hu) h

theorem begin_ct {x y z : Int} {K : Tup [sP] → World → Prop} {KP : List PanicEntry → World → Prop} (hx : 0 ≤ x) (hx2 : x < 18446744073709551616)
    (h : ∀ b0 n k : Nat, Conf b0 n k → (isConf x y z → x = b0 ∧ y = n ∧ z = k) → ∀ w b s m : Nat, ent e (isW w b s m ⟨b0, n, k, 0, fun _ => 0⟩ (D.new k) (D.new k) :: l) (K (some ⟨w, 0, none⟩, ()))) :
    ent e l ((wpM PR).call 20 [.agg #[vU x, vI y, vI z]] [sP] K KP) := by
  refine ent_call (fn := Go.Proofs.Try.f20) (by kernel_rfl) ?_
  rw [nf20_eq]
  refine ent_new fun x1 => ?_
  refine ent_ldA (x, y, z, ()) ?_
  refine usual_ct hx hx2 fun b0 n k hc hcc => ?_
  refine ent_st ?_
  refine ent_blk [vU b0, vI n, vI k] ?_
  refine ent_ldA ((b0 : Int), (n : Int), (k : Int), ()) ?_
  have hb0 : b0 < 18446744073709551616 := by have := hc.top; omega
  refine newSpace_ct (by omega) (by omega) (fun b' n' k' e1 e2 e3 _ s => ?_) (fun hn => absurd ⟨b0, n, k, rfl, rfl, rfl, hc⟩ hn)
  obtain rfl : b' = b0 := by have e1 : (b0 : Int) = b' := e1; omega
  obtain rfl : n' = n := by have e2 : (n : Int) = n' := e2; omega
  obtain rfl : k' = k := by have e3 : (k : Int) = k' := e3; omega
  refine ent_ld (k' : Int) ?_
  refine newMap_ct k' rfl hc.order fun m => ?_
  refine ent_joinP (A := Unit) (fun _ _ => True) (fun _ => isMap m ⟨k', 0, fun _ => pg0, fun _ _ => false⟩ :: isSpace s ⟨b', n', k', 0, fun _ => 0⟩ :: blk x1 24 [vU b', vI n', vI k'] :: l) (fun _ x8 _ => ?_) (fun k18 hk18 => ?_)
  · refine ent_ldA ((b' : Int), (n' : Int), (k' : Int), ()) ?_
    refine newB_ct (σ := ⟨b', n', k', 0, fun _ => 0⟩) (μ := ⟨k', 0, fun _ => pg0, fun _ _ => false⟩) rfl rfl rfl rfl fun b => ?_
    refine ent_nilP (el := 146) (by kernel_rfl) ?_
    refine ent_false ?_
    refine ent_draw ?_
    refine ent_ldA ((b' : Int), (n' : Int), (k' : Int), ()) ?_
    refine ent_ld (k' : Int) ?_
    refine newRef_ct k' rfl hc.order fun fs => ?_
    refine ent_keepA ?_
    refine ent_keep0 ?_
    refine ent_new fun w => ?_
    refine ent_blk (wRow b' n' k' s m b (D.new k').O (D.new k').pages fs ⟨none, 0, 0⟩) ?_
    refine ent_B_ok (fun _ sok _ => ?_)
    refine ent_sub ?_ (h b' n' k' hc hcc w b s m)
    refine sub_W (fs := fs) (ls := ⟨none, 0, 0⟩) rfl rfl ?_
    refine Sub.cons (show Take _ (blk w _ (wRow b' n' k' s m b (D.new k').O (D.new k').pages fs ⟨none, 0, 0⟩)) _ from (by with_reducible first | assumption | ((repeat (first | exact .here | apply Take.there)); done))) ?_
    refine sub_G (B := ⟨⟨b', n', k', 0, fun _ => 0⟩, ⟨k', 0, fun _ => pg0, fun _ _ => false⟩, fun _ => 0⟩) (Rep.fresh sok) ?_
    show Sub _ (_ :: isFree k' fs (fun _ => []) :: isLiveL ⟨none, 0, 0⟩ [] :: l)
    exact (by repeat (first | exact Sub.refl | refine Sub.cons (by with_reducible first | assumption | ((repeat (first | exact .here | apply Take.there)); done)) ?_ | refine Sub.drop ?_))
  · refine ent_ne (fun c => absurd rfl c) (fun _ => ?_)
    refine ent_nilP (el := 159) (by kernel_rfl) ?_
    refine ent_false ?_
    refine ent_nilP (el := 162) (by kernel_rfl) ?_
    refine ent_false ?_
    exact hk18 () _ trivial

theorem come_ct {K : Tup [sB] → World → Prop} {KP : List PanicEntry → World → Prop} (hn : σ.n < σ.limit) (hsync : synced σ d) (hlen : d0.live.length ≤ 100000)
    (h : ent e (isW w b s m σ.grown d.come d0.come :: r) (K (true, ()))) (k : Take l (isW w b s m σ d d0) r := by with_reducible first | assumption | ((repeat (first | exact .here | apply Take.there)); done)) :
    ent e l ((wpM PR).call 22 [vP w] [sB] K KP) := by
  refine ent_call (fn := Go.Proofs.Try.f22) (by kernel_rfl) ?_
  rw [nf22_eq]
  refine ent_W (fun fs ls hO hP => ?_) k
  refine ent_G_facts (fun sok ho inv hmem => ?_)
  have h1 : (σ.n + 1) * 2 ^ σ.order ≤ 1024 := Nat.le_trans (Nat.mul_le_mul_right _ (by omega)) sok.limit
  have h2 : d.pages + 2 ^ d.O = (σ.n + 1) * 2 ^ σ.order := by rw [Nat.succ_mul, ho]; unfold synced at hsync; omega
  have hp0 : 0 < 2 ^ σ.order := Nat.pow_pos (by omega)
  have hpages : d0.pages ≤ 100000 := by
    rw [hP]; exact Nat.le_trans (Nat.le_trans (Nat.le_add_right _ _) (Nat.le_of_eq h2)) (by omega)
  have hns : ¬ synced σ.grown d := by
    intro hh
    have hh : d.pages = (σ.n + 1) * 2 ^ σ.order := hh
    rw [ho] at h2; omega
  refine ent_ld (some ⟨s, 0, none⟩) ?_
  refine commitG_ct (σ := σ) (d := d) (fun _ _ => ?_) (fun c => absurd c (by rintro (c | c); exact absurd c (by decide); omega))
  refine ent_joinP (A := Unit) (fun _ _ => True) (fun _ => isG noS b s m σ.grown d :: wBlk w b s m σ d0 fs ls :: isFree d0.O fs d0.free :: isLiveL ls d0.live :: r) (fun _ x3 _ => ?_) (fun k14 hk14 => ?_)
  · refine ent_ld (some ⟨m, 0, none⟩) ?_
    refine growG_ct (σ := σ.grown) (d := d) (by omega) (Nat.le_of_eq h2) ?_
    refine ent_load (s := .agg [kI, kI, .slice, .slice]) ((d0.O : Int), (d0.pages : Int), fs, ls, ()) (.there .here) (fun i v hv => ?_) ?_
    · match i, hv with
      | 0, hv => exact hv
      | 1, hv => exact hv
      | 2, hv => exact hv
      | 3, hv => exact hv
      | n + 4, hv => simp [Shp.cells, Row.vals] at hv
    refine comeRef_ct d0.O d0.pages (by have := sok.order; omega) hpages hlen (fun ls' => ?_) (.there (.there (.there .here)))
    refine ent_st ?_
    refine ent_draw ?_
    refine ent_ld (some ⟨m, 0, none⟩) ?_
    refine ent_ld ((d0.pages + 2 ^ d0.O : Nat) : Int) ?_
    refine pagesG_ct ?_
    refine ent_keepB ?_
    refine ent_keep0 ?_
    have e1 : ((d.come.pages : Nat) : Int) = ((d0.pages + 2 ^ d0.O : Nat) : Int) := by rw [hP, hO]; rfl
    show ent e _ (K (((d.come.pages : Nat) : Int) == ((d0.pages + 2 ^ d0.O : Nat) : Int), ()))
    rw [e1, beq_self_eq_true]
    refine ent_blk (wRow σ.grown.base σ.grown.limit σ.grown.order s m b d0.come.O d0.come.pages fs ls') ?_
    refine ent_sub ?_ h
    refine sub_W (σ := σ.grown) (d := d.come) (d0 := d0.come) (fs := fs) (ls := ls') hO (by show d0.pages + 2 ^ d0.O = d.pages + 2 ^ d.O; rw [hP, hO]) ?_
    show Sub _ (_ :: _ :: isFree d0.O fs d0.free :: isLiveL ls' (d0.live ++ [(d0.pages, d0.O)]) :: r)
    exact (by repeat (first | exact Sub.refl | refine Sub.cons (by with_reducible first | assumption | ((repeat (first | exact .here | apply Take.there)); done)) ?_ | refine Sub.drop ?_))
  · refine ent_ne (fun c => absurd rfl c) (fun _ => ?_)
    refine ent_ld (some ⟨b, 0, none⟩) ?_
    refine feedG_ct (fun _ c => absurd c hns) (fun _ => ?_)
    refine ent_ne (fun c => absurd rfl c) (fun _ => ?_)
    refine ent_ld (some ⟨b, 0, none⟩) ?_
    refine pullG_ct (fun _ c => absurd c hns) (fun _ => ?_)
    refine ent_ne (fun c => absurd rfl c) (fun _ => ?_)
    exact hk14 () _ trivial

theorem goes_ct {K : Tup [sB] → World → Prop} {KP : List PanicEntry → World → Prop} (hsync : synced σ d) (h0 : 0 < d.pages) (hl : (d.top, d.O) ∈ d.live) (hlen : d0.live.length ≤ 100000)
    (h : ent e (isW w b s m (σ.less 1) d.go d0.go :: r) (K (true, ()))) (k : Take l (isW w b s m σ d d0) r := by with_reducible first | assumption | ((repeat (first | exact .here | apply Take.there)); done)) :
    ent e l ((wpM PR).call 84 [vP w] [sB] K KP) := by
  refine ent_call (fn := Go.Proofs.Try.f84) (by kernel_rfl) ?_
  rw [nf84_eq]
  refine ent_W (fun fs ls hO hP => ?_) k
  refine ent_G (fun μ heads R => ?_)
  refine ent_B (fun okb => ?_)
  have sok : σ.Ok := R.sok
  have ho : d.O = σ.order := R.ord
  have htop := R.top_lt h0
  have h64 : d.pages ≤ 100000 := by
    have := sok.limit
    have h3 : σ.n * 2 ^ σ.order ≤ σ.limit * 2 ^ σ.order := Nat.mul_le_mul_right _ sok.n
    unfold synced at hsync; omega
  have hn0 : 0 < σ.n := by
    refine Nat.pos_of_ne_zero fun hz => ?_
    unfold synced at hsync; rw [hz, Nat.zero_mul] at hsync; omega
  have hmo : μ.order = d.O := by have : μ.order = σ.order := okb.order; omega
  have hmn : μ.n = d.pages := R.n
  have hp0 : 0 < 2 ^ μ.order := Nat.pow_pos (by omega)
  have hdiv : 1 ≤ μ.n / 2 ^ μ.order := by
    rw [Nat.le_div_iff_mul_le hp0, Nat.one_mul, hmn, hmo]; omega
  refine ent_joinP (A := Unit) (fun _ _ => True) (fun _ => isG noS b s m (σ.less 1) d.go :: wBlk w b s m σ d0 fs ls :: isFree d0.O fs d0.free :: isLiveL ls d0.live :: r) (fun _ x1 _ => ?_) (fun k5 hk5 => ?_)
  · refine ent_load (s := .agg [kI, kI, .slice, .slice]) ((d0.O : Int), (d0.pages : Int), fs, ls, ()) (.there .here) (fun i v hv => ?_) ?_
    · match i, hv with
      | 0, hv => exact hv
      | 1, hv => exact hv
      | 2, hv => exact hv
      | 3, hv => exact hv
      | n + 4, hv => simp [Shp.cells, Row.vals] at hv
    refine goRef_ct d0.O d0.pages (by have := sok.order; omega) (by omega) (by omega) (by rw [hO, hP]; omega) hlen (fun ls' => ?_) (.there (.there (.there .here)))
    refine ent_st ?_
    refine ent_blk (wRow (σ.less 1).base (σ.less 1).limit (σ.less 1).order s m b d0.go.O d0.go.pages fs ls') ?_
    refine ent_sub ?_ h
    refine sub_W (σ := σ.less 1) (d := d.go) (d0 := d0.go) (fs := fs) (ls := ls') hO (by show d0.pages - 2 ^ d0.O = d.pages - 2 ^ d.O; rw [hP, hO]) ?_
    show Sub _ (_ :: _ :: isFree d0.O fs d0.free :: isLiveL ls' (d0.live.filter (·.1 ≠ d0.pages - 2 ^ d0.O)) :: r)
    exact (by repeat (first | exact Sub.refl | refine Sub.cons (by with_reducible first | assumption | ((repeat (first | exact .here | apply Take.there)); done)) ?_ | refine Sub.drop ?_))
  · refine ent_ld (some ⟨s, 0, none⟩) ?_
    refine decommit_ct (s := s) (σ := σ) (fun j hj hjn => ?_) (fun c => by omega)
    obtain rfl : j = 1 := by omega
    refine ent_ne (fun c => absurd rfl c) (fun _ => ?_)
    refine ent_ld (some ⟨m, 0, none⟩) ?_
    refine shrinkMap_ct (m := m) (μ := μ) (fun j hj hjn => ?_) (fun c => by omega)
    obtain rfl : j = 1 := by omega
    refine ent_ne (fun c => absurd rfl c) (fun _ => ?_)
    refine ent_sub ?_ (hk5 () _ trivial)
    exact sub_G (B := ⟨σ.less 1, μ.less 1, heads⟩) (R.goes hsync hl (fun h => h)) (sub_B ⟨σ.less 1, μ.less 1, heads⟩ ⟨okb.order, okb.heads⟩ (by repeat (first | exact Sub.refl | refine Sub.cons (by with_reducible first | assumption | ((repeat (first | exact .here | apply Take.there)); done)) ?_ | refine Sub.drop ?_)))

theorem at_ct5 {base limit order s m b O pages : Nat} {fs ls : Sl} {K : Tup [sU] → World → Prop} {KP : List PanicEntry → World → Prop} (p : Nat) (hp : base + 4096 * p < 18446744073709551616)
    (h : ent e l (K (((base + 4096 * p : Nat) : Int), ()))) (k : Take l (blk w 38 (wRow base limit order s m b O pages fs ls)) r := by with_reducible first | assumption | ((repeat (first | exact .here | apply Take.there)); done)) :
    ent e l ((wpM PR).call 26 [vP w, vI (p : Int)] [sU] K KP) := by
  refine ent_call (fn := Go.Proofs.Try.f26) (by kernel_rfl) ?_
  rw [nf26_eq]
  refine ent_ld (base : Int) ?_ k
  show ent e l (K (wU ((base : Int) + wU (4096 * wU (p : Int))), ()))
  rw [wU_nat (n := p) (by omega), show (4096 : Int) * (p : Int) = ((4096 * p : Nat) : Int) by omega, wU_nat (by omega), ← Int.natCast_add, wU_nat (by omega)]
  exact h

theorem page_ct5 {base limit order s m b O pages : Nat} {fs ls : Sl} {x : Int} {K : Tup [sI] → World → Prop} {KP : List PanicEntry → World → Prop} (a : Nat) (hx : x = a) (ha : a < 18446744073709551616) (hb : base % 4096 = 0) (hp : pages ≤ 1024)
    (h1 : ∀ p : Nat, a = base + 4096 * p → p < pages → ent e l (K ((p : Int), ()))) (h2 : (∀ p : Nat, a = base + 4096 * p → pages ≤ p) → ent e l (K (-1, ())))
    (k : Take l (blk w 38 (wRow base limit order s m b O pages fs ls)) r := by with_reducible first | assumption | ((repeat (first | exact .here | apply Take.there)); done)) :
    ent e l ((wpM PR).call 82 [vP w, vU x] [sI] K KP) := by
  subst hx
  refine ent_call (fn := Go.Proofs.Try.f82) (by kernel_rfl) ?_
  rw [nf82_eq]
  refine ent_joinP (A := Unit) (fun _ _ => ∃ p : Nat, a = base + 4096 * p ∧ p < pages) (fun _ => l) (fun _ x1 hx1 => ?_) (fun k3 hk3 => ?_)
  · obtain ⟨p, rfl, hpp⟩ := hx1
    refine ent_ld (base : Int) ?_ k
    show ent e l (K (wI (wU ((wU (((base + 4096 * p : Nat) : Int) - (base : Int))).tdiv 4096)), ()))
    rw [show (((base + 4096 * p : Nat) : Int) - (base : Int)) = ((4096 * p : Nat) : Int) by omega, wU_nat (by omega),
      show ((4096 * p : Nat) : Int).tdiv 4096 = ((4096 * p / 4096 : Nat) : Int) from rfl, Nat.mul_div_cancel_left _ (by omega), wU_nat (by omega), wI_of (by omega) (by omega)]
    exact h1 p rfl hpp
  · refine ent_draw ?_
    refine ent_ld (base : Int) ?_ k
    refine ent_lt (fun c => h2 fun p hp => ?_) (fun c => ?_)
    · have c : (a : Int) < (base : Int) := c
      omega
    · have c : (base : Int) ≤ (a : Int) := c
      show ent e l (bif (a : Int).tmod ((4096 : Nat) : Int) != 0 then _ else _)
      rw [tmod_nat]
      refine ent_ne (fun c2 => h2 fun p hp => ?_) (fun c2 => ?_)
      · omega
      · refine ent_ld (base : Int) ?_ k
        refine ent_ld (pages : Int) ?_ k
        rw [show ((a : Int) - (base : Int)) = ((a - base : Nat) : Int) by omega, wU_nat (n := a - base) (by omega), wU_nat (n := pages) (by omega), show (4096 : Int) * (pages : Int) = ((4096 * pages : Nat) : Int) by omega, wU_nat (n := 4096 * pages) (by omega)]
        refine ent_ge (fun c3 => h2 fun p hp => ?_) (fun c3 => ?_)
        · have c3 : ((4096 * pages : Nat) : Int) ≤ ((a - base : Nat) : Int) := c3
          omega
        · have c3 : ((a - base : Nat) : Int) < ((4096 * pages : Nat) : Int) := c3
          exact hk3 () _ ⟨(a - base) / 4096, by omega, by omega⟩

end Go.Proofs.Ytdmfnlcbfmahhaa
