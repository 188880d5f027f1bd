/- The page map: runs of pages, pair bits, regions that come and go. -/
import Derived.Test.YtdmfnlcbfmahhaaMapC
namespace Go.Proofs.Ytdmfnlcbfmahhaa
open Go Hl
set_option maxRecDepth 100000

variable {e : Still} {l r : List HP}

/-! ## Runs -/

/-- A run's pages, as many as were written. -/
abbrev Mp.runTo (μ : Mp) (p k : Nat) (z : Int) (i : Nat) : Mp := { μ with pages := fun q => if p ≤ q ∧ q < p + i then plainPg (if q = p then z else z + 1) k else μ.pages q }

def Mp.run (μ : Mp) (p k : Nat) (z : Int) : Mp := μ.runTo p k z (2 ^ k)

def Mp.canRun (μ : Mp) (x y z : Int) : Prop := ∃ p k : Nat, x = p ∧ y = k ∧ (z = 0 ∨ z = 2) ∧ k ≤ μ.order ∧ p % 2 ^ k = 0 ∧ p + 2 ^ k ≤ μ.n

theorem Mp.canRun_nat {μ : Mp} {p j : Nat} {z : Int} (h : μ.canRun p j z) : (z = 0 ∨ z = 2) ∧ j ≤ μ.order ∧ p % 2 ^ j = 0 ∧ p + 2 ^ j ≤ μ.n := by
  obtain ⟨p', j', hp, hj, h⟩ := h
  obtain rfl : p = p' := by omega
  obtain rfl : j = j' := by omega
  exact h

theorem Mp.Ok.runTo {μ : Mp} (ok : μ.Ok) {p k i : Nat} {z : Int} (hz : z = 0 ∨ z = 2) (hk : k ≤ μ.order) : (μ.runTo p k z i).Ok := by
  refine ⟨ok.order, ok.n, ok.whole, fun q hq => ?_⟩
  show FitPg μ.order (if p ≤ q ∧ q < p + i then plainPg (if q = p then z else z + 1) k else μ.pages q)
  split
  · apply FitPg.plain
    · split <;> omega
    · split <;> omega
    · omega
    · omega
  · exact ok.fits q hq

theorem runTo_step {μ : Mp} {p k i : Nat} {z : Int} : set1 (μ.runTo p k z i).pages (p + i) (plainPg (if p + i = p then z else z + 1) k) = (μ.runTo p k z (i + 1)).pages := by
  funext q
  unfold set1 Mp.runTo
  by_cases hq : q = p + i
  · subst hq; simp
  · simp only [hq, if_false]
    by_cases h : p ≤ q ∧ q < p + i
    · rw [if_pos h, if_pos (show p ≤ q ∧ q < p + (i + 1) by omega)]
    · rw [if_neg h, if_neg (show ¬ (p ≤ q ∧ q < p + (i + 1)) by omega)]

theorem runTo_same {μ : Mp} {p k i : Nat} {z : Int} (h : (μ.runTo p k z i).pages (p + i) = plainPg (if p + i = p then z else z + 1) k) : μ.runTo p k z i = μ.runTo p k z (i + 1) := by
  have : (μ.runTo p k z i).pages = (μ.runTo p k z (i + 1)).pages := by
    rw [← runTo_step, ← h]
    funext q
    unfold set1
    split
    · rename_i e; rw [e]
    · rfl
  show ({ μ with pages := (μ.runTo p k z i).pages } : Mp) = { μ with pages := (μ.runTo p k z (i + 1)).pages }
  rw [this]

theorem run_ct {m : Nat} {μ : Mp} {x y z : Int} {K : Tup [sI] → World → Prop} {KP : List PanicEntry → World → Prop}
    (h1 : ∀ p k : Nat, x = p → y = k → (z = 0 ∨ z = 2) → k ≤ μ.order → p % 2 ^ k = 0 → p + 2 ^ k ≤ μ.n → ent e (isMap m (μ.run p k z) :: r) (K (0, ()))) (h2 : ¬ μ.canRun x y z → ent e l (K (1, ())))
    (k : Take l (isMap m μ) r := by with_reducible first | assumption | ((repeat (first | exact .here | apply Take.there)); done)) :
    ent e l ((wpM PR).call 48 [vP m, vI x, vI y, vI z] [sI] K KP) := by
  refine ent_call (fn := Go.Proofs.Try.f48) (by kernel_rfl) ?_
  rw [nf48_eq]
  refine ent_map_ok (fun ok => ?_) k
  have ho := ok.order
  refine ent_joinP (A := Unit) (fun _ _ => μ.canRun x y z) (fun _ => l) (fun _ _ hp => ?_) (fun kk hkk => ?_)
  · obtain ⟨p, j, rfl, rfl, hz, hj, hm, hn⟩ := hp
    have hnn := ok.n
    have hpw := pow_le8 (show j ≤ 8 by omega)
    refine ent_g0 (by omega) ?_
    rw [shl_nat (show j ≤ 62 by omega)]
    refine ent_loop (S := Nat) (fun i => ((i : Int), ())) (fun i => isMap m (μ.runTo p j z i) :: r) (fun i => i ≤ 2 ^ j) (fun i => 2 ^ j - i) 0 rfl (Nat.zero_le _) ?_ ?_
    · intro hh y
      have : μ.runTo p j z 0 = μ := by
        unfold Mp.runTo
        have : (fun q => if p ≤ q ∧ q < p + 0 then plainPg (if q = p then z else z + 1) j else μ.pages q) = μ.pages := by funext q; rw [if_neg (by omega)]
        rw [this]
      show stars (isMap m (μ.runTo p j z 0) :: r) _
      rw [this]; exact k.stars y
    · intro kk i hi hk
      refine ent_lt (fun c => ?_) (fun c => ?_)
      · have hij : i < 2 ^ j := by omega
        refine ent_joinP (A := Unit) (fun _ _ => True) (fun _ => isMap m (μ.runTo p j z (i + 1)) :: r) (fun _ _ _ => ?_) (fun k5 hk5 => ?_)
        · rw [show wI ((i : Int) + 1) = ((i + 1 : Nat) : Int) by rw [wI_of (by omega) (by omega)]; omega]
          exact hk (i + 1) hij (by omega)
        · refine plainPg_ct ?_
          refine ent_new fun b => ?_
          refine ent_st ?_
          refine ent_blk (Row.vals kPg (plainPg z j)) ?_
          refine ent_joinP (A := Unit) (fun _ _ => True) (fun _ => blk b 57 (Row.vals kPg (plainPg (if p + i = p then z else z + 1) j)) :: isMap m (μ.runTo p j z i) :: r) (fun _ _ _ => ?_) (fun k17 hk17 => ?_)
          · refine ent_draw ?_
            refine ent_map (fun ps qs ptrs oki hl1 hl2 => ?_)
            have hl1 : ps.len = μ.n := hl1
            refine ent_ld ps ?_
            have e1 : wI ((p : Int) + (i : Int)) = ((p + i : Nat) : Int) := by rw [wI_of (by omega) (by omega)]; omega
            rw [e1]
            refine ent_atT (sh := sPg) (f := (μ.runTo p j z i).pages) (p + i) rfl (show p + i < μ.n by omega) ?_
            refine ent_ldA (plainPg (if p + i = p then z else z + 1) j) ?_
            refine ent_eqPg (O := μ.order) ho (oki.fits (p + i) (show p + i < μ.n by omega)) (FitPg.plain (by split <;> omega) (by split <;> omega) (by omega) (by omega)) fun t ht => ?_
            refine ent_not (fun c => ?_) (fun c => ?_)
            · refine ent_draw ?_
              refine ent_ld ps ?_
              refine ent_ldA (plainPg (if p + i = p then z else z + 1) j) ?_
              refine ent_putT (sh := sPg) (f := (μ.runTo p j z i).pages) (p + i) (plainPg (if p + i = p then z else z + 1) j) rfl (show p + i < μ.n by omega) rfl ?_
              rw [runTo_step]
              exact ent_sub (sub_map (μ.runTo p j z (i + 1)) (ok.runTo hz hj) (by repeat (first | exact Sub.refl | refine Sub.cons (by with_reducible first | assumption | ((repeat (first | exact .here | apply Take.there)); done)) ?_ | refine Sub.drop ?_))) (hk5 () () trivial)
            · have he := runTo_same (ht.1 c)
              rw [he]
              rw [he] at oki
              exact ent_sub (sub_map (μ.runTo p j z (i + 1)) oki (by repeat (first | exact Sub.refl | refine Sub.cons (by with_reducible first | assumption | ((repeat (first | exact .here | apply Take.there)); done)) ?_ | refine Sub.drop ?_))) (hk5 () () trivial)
          · refine ent_gt (fun c => ?_) (fun c => ?_)
            · refine ent_ld z ?_
              refine ent_st ?_
              refine ent_blk (Row.vals kPg (plainPg (wI (z + 1)) j)) ?_
              rw [wI_of (by omega) (by omega)]
              have := hk17 () () trivial
              rw [if_neg (by omega)] at this
              exact this
            · have := hk17 () () trivial
              rw [if_pos (by omega)] at this
              exact this
      · obtain rfl : i = 2 ^ j := by omega
        exact h1 p j rfl rfl hz hj hm hn
  · have hno : ∀ {q : Prop}, (μ.canRun x y z → q) → ¬ q → ent e l (K (1, ())) := fun hq hn => h2 fun hc => hn (hq hc)
    refine ent_draw ?_
    refine ent_ne (fun c => ?_) (fun c => ?_)
    · refine ent_ne (fun c2 => ?_) (fun c2 => ?_)
      · exact hno (q := z = 0 ∨ z = 2) (fun ⟨_, _, _, _, hz, _⟩ => hz) (by omega)
      · refine ent_map_order ?_ k
        refine within_ct (fun a1 a2 => ?_) (fun a => ?_)
        · refine ent_false ?_
          obtain ⟨j, rfl⟩ : ∃ j : Nat, y = j := ⟨y.toNat, by omega⟩
          refine ent_lt (fun c3 => hno (q := 0 ≤ x) (fun ⟨p, _, hp, _⟩ => by omega) (by omega)) (fun c3 => ?_)
          obtain ⟨p, rfl⟩ : ∃ p : Nat, x = p := ⟨x.toNat, by omega⟩
          have hp0 : 0 < 2 ^ j := Nat.pow_pos (by omega)
          have hpw := pow_le8 (show j ≤ 8 by omega)
          refine ent_g0 (by omega) ?_
          rw [shl_nat (show j ≤ 62 by omega)]
          refine ent_gn (by omega) ?_
          rw [tmod_nat]
          refine ent_ne (fun c4 => hno (q := p % 2 ^ j = 0) (fun hc => (Mp.canRun_nat hc).2.2.1) (by omega)) (fun c4 => ?_)
          refine ent_map_len (fun s hs => ?_) k
          have hnn := ok.n
          refine ent_g0 (by omega) ?_
          rw [hs, wI_of (by omega) (by omega)]
          refine ent_gt (fun c5 => hno (q := p + 2 ^ j ≤ μ.n) (fun hc => (Mp.canRun_nat hc).2.2.2) (by omega)) (fun c5 => ?_)
          exact hkk () _ ⟨p, j, rfl, rfl, .inr c2, by omega, by omega, by omega⟩
        · refine ent_true ?_
          exact hno (q := 0 ≤ y ∧ y ≤ μ.order) (fun ⟨_, j, _, hj, _, hjo, _⟩ => by omega) (by omega)
    · refine ent_map_order ?_ k
      refine within_ct (fun a1 a2 => ?_) (fun a => ?_)
      · refine ent_false ?_
        obtain ⟨j, rfl⟩ : ∃ j : Nat, y = j := ⟨y.toNat, by omega⟩
        refine ent_lt (fun c3 => hno (q := 0 ≤ x) (fun ⟨p, _, hp, _⟩ => by omega) (by omega)) (fun c3 => ?_)
        obtain ⟨p, rfl⟩ : ∃ p : Nat, x = p := ⟨x.toNat, by omega⟩
        have hp0 : 0 < 2 ^ j := Nat.pow_pos (by omega)
        have hpw := pow_le8 (show j ≤ 8 by omega)
        refine ent_g0 (by omega) ?_
        rw [shl_nat (show j ≤ 62 by omega)]
        refine ent_gn (by omega) ?_
        rw [tmod_nat]
        refine ent_ne (fun c4 => hno (q := p % 2 ^ j = 0) (fun hc => (Mp.canRun_nat hc).2.2.1) (by omega)) (fun c4 => ?_)
        refine ent_map_len (fun s hs => ?_) k
        have hnn := ok.n
        refine ent_g0 (by omega) ?_
        rw [hs, wI_of (by omega) (by omega)]
        refine ent_gt (fun c5 => hno (q := p + 2 ^ j ≤ μ.n) (fun hc => (Mp.canRun_nat hc).2.2.2) (by omega)) (fun c5 => ?_)
        exact hkk () _ ⟨p, j, rfl, rfl, .inl c, by omega, by omega, by omega⟩
      · refine ent_true ?_
        exact hno (q := 0 ≤ y ∧ y ≤ μ.order) (fun ⟨_, j, _, hj, _, hjo, _⟩ => by omega) (by omega)

/-! ## Pair bits -/

abbrev Mp.flip (μ : Mp) (k i : Nat) : Mp := { μ with pairs := fun j => if j = k then flipped (μ.pairs k) i else μ.pairs j }

theorem Mp.Ok.flip {μ : Mp} (ok : μ.Ok) {k i : Nat} : (μ.flip k i).Ok := ⟨ok.order, ok.n, ok.whole, ok.fits⟩

/-- The bit of the pair of a page, and an order, is there. -/
def Mp.paired (μ : Mp) (x y : Int) : Prop := ∃ k p : Nat, x = k ∧ y = p ∧ k < μ.order ∧ p < μ.n

theorem pair_lt {μ : Mp} (ok : μ.Ok) {k p : Nat} (hk : k < μ.order) (hp : p < μ.n) : p / 2 ^ (k + 1) < μ.n / 2 ^ (k + 1) := by
  have hw : μ.n % 2 ^ (k + 1) = 0 := Nat.mod_eq_zero_of_dvd (Nat.dvd_trans (Nat.pow_dvd_pow 2 hk) (Nat.dvd_of_mod_eq_zero ok.whole))
  rw [Nat.div_lt_iff_lt_mul (Nat.pow_pos (by omega)), Nat.mul_comm]
  have := Nat.div_add_mod μ.n (2 ^ (k + 1))
  omega

theorem pair_ct {m : Nat} {μ : Mp} {x y : Int} {K : Tup [sB] → World → Prop} {KP : List PanicEntry → World → Prop}
    (h1 : ∀ k p : Nat, x = k → y = p → k < μ.order → p < μ.n → ent e l (K (μ.pairs k (p / 2 ^ (k + 1)), ()))) (h2 : ¬ μ.paired x y → ent e l (K (false, ()))) (t : Take l (isMap m μ) r := by with_reducible first | assumption | ((repeat (first | exact .here | apply Take.there)); done)) :
    ent e l ((wpM PR).call 105 [vP m, vI x, vI y] [sB] K KP) := by
  refine ent_call (fn := Go.Proofs.Try.f105) (by kernel_rfl) ?_
  rw [nf105_eq]
  refine ent_map_ok (fun ok => ?_) t
  have ho := ok.order
  refine ent_joinP (A := Unit) (fun _ _ => μ.paired x y) (fun _ => l) (fun _ _ hp => ?_) (fun kk hkk => ?_)
  · obtain ⟨k, p, rfl, rfl, hk, hp⟩ := hp
    refine ent_draw ?_
    refine ent_map (fun ps qs ptrs _ hl1 hl2 => ?_) t
    refine ent_ld qs ?_
    refine ent_atT (sh := sP) (f := fun k => (some ⟨ptrs k, 0, none⟩ : Option Addr)) k rfl hk ?_
    have e1 : wI ((k : Int) + 1) = ((k + 1 : Nat) : Int) := by rw [wI_of (by omega) (by omega)]; omega
    rw [e1, shr_nat (show k + 1 ≤ 64 by omega)]
    refine ent_g0 (by omega) ?_
    refine ent_each k hk ?_
    refine getBit_ct (p / 2 ^ (k + 1)) .here rfl ?_
    rw [decide_eq_true (pair_lt ok hk hp), Bool.true_and]
    refine ent_sub ?_ (h1 k p rfl rfl hk hp)
    refine Sub.trans (sub_map (ps := ps) (qs := qs) (ptrs := ptrs) μ ok ?_) (Sub.untake t)
    exact Sub.cons (by with_reducible first | assumption | ((repeat (first | exact .here | apply Take.there)); done)) (Sub.cons (by with_reducible first | assumption | ((repeat (first | exact .here | apply Take.there)); done)) (Sub.cons (by with_reducible first | assumption | ((repeat (first | exact .here | apply Take.there)); done)) (Sub.each (f := fun k => isSet (ptrs k) (μ.n / 2 ^ (k + 1)) (μ.pairs k)) hk (fun _ _ _ => rfl) (by repeat (first | exact Sub.refl | refine Sub.cons (by with_reducible first | assumption | ((repeat (first | exact .here | apply Take.there)); done)) ?_ | refine Sub.drop ?_)))))
  · refine at_ct (fun i hi1 hi2 => ?_) (fun hn => ?_) t
    · refine ent_new fun b => ?_
      refine ent_st ?_
      refine ent_false ?_
      refine ent_map_order ?_ (.there t)
      by_cases h0 : μ.order = 0
      · refine within_ct (fun a1 a2 => ?_) (fun a => ?_)
        · rw [h0, wI_of (by omega) (by omega)] at a2; omega
        · refine ent_true ?_
          exact ent_drop (h2 (by rintro ⟨k, p, hk, hp, hko, _⟩; omega))
      · rw [wI_of (by omega) (by omega)]
        refine within_ct (fun a1 a2 => ?_) (fun a => ?_)
        · refine ent_false ?_
          exact ent_drop (hkk () _ ⟨x.toNat, i, by omega, hi1, by omega, hi2⟩)
        · refine ent_true ?_
          exact ent_drop (h2 (by rintro ⟨k, p, hk, hp, hko, _⟩; omega))
    · refine ent_new fun b => ?_
      refine ent_st ?_
      refine ent_true ?_
      exact ent_drop (h2 (by rintro ⟨k, p, hk, hp, _, hpn⟩; omega))

theorem flip_ct {m : Nat} {μ : Mp} {x y : Int} {K : Tup [sB, sI] → World → Prop} {KP : List PanicEntry → World → Prop}
    (h1 : ∀ k p : Nat, x = k → y = p → k < μ.order → p < μ.n → ent e (isMap m (μ.flip k (p / 2 ^ (k + 1))) :: r) (K (!μ.pairs k (p / 2 ^ (k + 1)), 0, ()))) (h2 : ¬ μ.paired x y → ent e l (K (false, 1, ()))) (t : Take l (isMap m μ) r := by with_reducible first | assumption | ((repeat (first | exact .here | apply Take.there)); done)) :
    ent e l ((wpM PR).call 49 [vP m, vI x, vI y] [sB, sI] K KP) := by
  refine ent_call (fn := Go.Proofs.Try.f49) (by kernel_rfl) ?_
  rw [nf49_eq]
  refine ent_map_ok (fun ok => ?_) t
  have ho := ok.order
  refine ent_joinP (A := Unit) (fun _ _ => μ.paired x y) (fun _ => l) (fun _ _ hp => ?_) (fun kk hkk => ?_)
  · obtain ⟨k, p, rfl, rfl, hk, hp⟩ := hp
    refine ent_draw ?_
    refine ent_map (fun ps qs ptrs _ hl1 hl2 => ?_) t
    refine ent_ld qs ?_
    refine ent_atT (sh := sP) (f := fun k => (some ⟨ptrs k, 0, none⟩ : Option Addr)) k rfl hk ?_
    have e1 : wI ((k : Int) + 1) = ((k + 1 : Nat) : Int) := by rw [wI_of (by omega) (by omega)]; omega
    rw [e1, shr_nat (show k + 1 ≤ 64 by omega)]
    refine ent_g0 (by omega) ?_
    refine ent_each k hk ?_
    refine flipBit_ct (p / 2 ^ (k + 1)) .here rfl (fun hlt => ?_) (fun hn => absurd (pair_lt ok hk hp) hn)
    refine ent_sub (l' := isMap m (μ.flip k (p / 2 ^ (k + 1))) :: r) ?_ ?_
    · refine sub_map (ps := ps) (qs := qs) (ptrs := ptrs) (O := μ.order) (n := μ.n) (pairs := (μ.flip k (p / 2 ^ (k + 1))).pairs) (μ.flip k (p / 2 ^ (k + 1))) ok.flip ?_
      refine Sub.cons (by with_reducible first | assumption | ((repeat (first | exact .here | apply Take.there)); done)) (Sub.cons (by with_reducible first | assumption | ((repeat (first | exact .here | apply Take.there)); done)) (Sub.cons (by with_reducible first | assumption | ((repeat (first | exact .here | apply Take.there)); done)) (Sub.each (f := fun k => isSet (ptrs k) (μ.n / 2 ^ (k + 1)) (μ.pairs k)) hk (fun j hj hne => ?_) ?_)))
      · show isSet _ _ (if j = k then _ else _) = _
        rw [if_neg hne]
      · show Sub _ (isSet _ _ (if k = k then _ else _) :: _)
        rw [if_pos rfl]
        exact (by repeat (first | exact Sub.refl | refine Sub.cons (by with_reducible first | assumption | ((repeat (first | exact .here | apply Take.there)); done)) ?_ | refine Sub.drop ?_))
    · refine pair_ct (fun k' p' hk' hp' hko hpn => ?_) (fun hn => absurd ⟨k, p, rfl, rfl, hk, hp⟩ hn) .here
      obtain rfl : k = k' := by omega
      obtain rfl : p = p' := by omega
      have := h1 k p rfl rfl hk hp
      have e2 : (μ.flip k (p / 2 ^ (k + 1))).pairs k (p / 2 ^ (k + 1)) = !μ.pairs k (p / 2 ^ (k + 1)) := by simp [flipped]
      rw [e2]
      exact this
  · refine at_ct (fun i hi1 hi2 => ?_) (fun hn => ?_) t
    · refine ent_new fun b => ?_
      refine ent_st ?_
      refine ent_false ?_
      refine ent_map_order ?_ (.there t)
      by_cases h0 : μ.order = 0
      · refine within_ct (fun a1 a2 => ?_) (fun a => ?_)
        · rw [h0, wI_of (by omega) (by omega)] at a2; omega
        · refine ent_true ?_
          exact ent_drop (h2 (by rintro ⟨k, p, hk, hp, hko, _⟩; omega))
      · rw [wI_of (by omega) (by omega)]
        refine within_ct (fun a1 a2 => ?_) (fun a => ?_)
        · refine ent_false ?_
          exact ent_drop (hkk () _ ⟨x.toNat, i, by omega, hi1, by omega, hi2⟩)
        · refine ent_true ?_
          exact ent_drop (h2 (by rintro ⟨k, p, hk, hp, hko, _⟩; omega))
    · refine ent_new fun b => ?_
      refine ent_st ?_
      refine ent_true ?_
      exact ent_drop (h2 (by rintro ⟨k, p, hk, hp, _, hpn⟩; omega))

/-! ## Regions -/

theorem half_le {n k : Nat} (hn : n ≤ 1024) : n / 2 ^ (k + 1) ≤ 1024 := by
  have := Nat.div_le_self n (2 ^ (k + 1)); omega

theorem paired_ct {m O n0 n : Nat} {ps qs : Sl} {ptrs : Nat → Nat} {f : Nat → Nat → Bool} {r1 r2 : List HP} {t : TypeId} {K : Tup [] → World → Prop} {KP : List PanicEntry → World → Prop} (hO : O ≤ 8) (hn : n ≤ 1024) (hl : ps.len = n)
    (h : ent e (each O (fun k => isSet (ptrs k) (n / 2 ^ (k + 1)) (fun i => f k i && decide (i < n0 / 2 ^ (k + 1)))) :: r) (K ()))
    (k3 : Take l (each O fun k => isSet (ptrs k) (n0 / 2 ^ (k + 1)) (f k)) r := by with_reducible first | assumption | ((repeat (first | exact .here | apply Take.there)); done)) (k1 : Take r (blk m t [vI O, .slice ps.base ps.len ps.cap, .slice qs.base qs.len qs.cap]) r1 := by with_reducible first | assumption | ((repeat (first | exact .here | apply Take.there)); done))
    (k2 : Take r (arr 179 sP qs (tab O fun k => (some ⟨ptrs k, 0, none⟩ : Option Addr))) r2 := by with_reducible first | assumption | ((repeat (first | exact .here | apply Take.there)); done)) :
    ent e l ((wpM PR).call 107 [vP m] [] K KP) := by
  refine ent_call (fn := Go.Proofs.Try.f107) (by kernel_rfl) ?_
  rw [nf107_eq]
  refine ent_sub (Sub.cons k3 .refl) ?_
  refine ent_load1 qs (.there k1) rfl ?_
  refine ent_len (.there k2) fun hq => ?_
  rw [tab_len] at hq
  refine ent_loop (S := Nat) (fun j => ((j : Int), ())) (fun j => each O (fun k => if k < j then isSet (ptrs k) (n / 2 ^ (k + 1)) (fun i => f k i && decide (i < n0 / 2 ^ (k + 1))) else isSet (ptrs k) (n0 / 2 ^ (k + 1)) (f k)) :: r) (fun j => j ≤ O) (fun j => O - j) 0 rfl (Nat.zero_le _) ?_ ?_
  · intro hh y
    refine star_mono (fun _ z => ?_) (fun _ z => z) y
    have : (fun k => if k < 0 then isSet (ptrs k) (n / 2 ^ (k + 1)) (fun i => f k i && decide (i < n0 / 2 ^ (k + 1))) else isSet (ptrs k) (n0 / 2 ^ (k + 1)) (f k)) = fun k => isSet (ptrs k) (n0 / 2 ^ (k + 1)) (f k) := by
      funext k; rw [if_neg (by omega)]
    show each O (fun k => if k < 0 then _ else _) _
    rw [this]; exact z
  · intro kk j hj hk
    refine ent_lt (fun c => ?_) (fun c => ?_)
    · have hjO : j < O := by omega
      refine ent_atT (sh := sP) (f := fun k => (some ⟨ptrs k, 0, none⟩ : Option Addr)) j rfl hjO ?_ (.there k2)
      refine ent_load1 ps (.there k1) rfl ?_
      have e1 : wI ((j : Int) + 1) = ((j + 1 : Nat) : Int) := by rw [wI_of (by omega) (by omega)]; omega
      rw [e1, shr_nat (show j + 1 ≤ 64 by omega), hl]
      refine ent_g0 (by omega) ?_
      refine ent_each j hjO ?_
      show ent e ((if j < j then _ else _) :: _) _
      rw [if_neg (Nat.lt_irrefl j)]
      refine resize_ct (n / 2 ^ (j + 1)) rfl (half_le hn) ?_ .here
      refine ent_sub ?_ (hk (j + 1) (by omega) (by omega))
      refine Sub.each (f := fun k => if k < j then isSet (ptrs k) (n / 2 ^ (k + 1)) (fun i => f k i && decide (i < n0 / 2 ^ (k + 1))) else isSet (ptrs k) (n0 / 2 ^ (k + 1)) (f k)) hjO (fun i hi hne => ?_) ?_
      · by_cases h1 : i < j
        · rw [if_pos h1, if_pos (by omega)]
        · rw [if_neg h1, if_neg (by omega)]
      · show Sub _ ((if j < j + 1 then _ else _) :: _)
        rw [if_pos (by omega)]
        exact .refl
    · obtain rfl : j = O := by omega
      refine ent_sub (Sub.each_congr (fun i hi => ?_) .refl) h
      rw [if_pos hi]

def Mp.grown (μ : Mp) : Mp := { μ with
  n := μ.n + 2 ^ μ.order,
  pages := fun q => if μ.n ≤ q ∧ q < μ.n + 2 ^ μ.order then plainPg (if q = μ.n then 2 else 2 + 1) μ.order else if q < μ.n then μ.pages q else pg0,
  pairs := fun k i => μ.pairs k i && decide (i < μ.n / 2 ^ (k + 1)) }

theorem pg_elem : Elem PR 54 57 sPg pg0 88 := .of (by kernel_rfl) (by kernel_rfl)

theorem FitPg.zero {O : Nat} : FitPg O pg0 := by
  refine ⟨?_, ?_, ?_, ?_, ?_, ?_, ?_, ?_, ?_, ?_, ?_, ?_, ?_, ?_, ?_, ?_, ?_, ?_⟩ <;> simp only [pg0, Pg.kind, Pg.order, Pg.cls, Pg.live, Pg.next, Pg.prev, Pg.first, Pg.b0, Pg.b1, Pg.b2, Pg.b3] <;> omega

theorem grow_ct {m : Nat} {μ : Mp} {K : Tup [] → World → Prop} {KP : List PanicEntry → World → Prop}
    (h1 : μ.n + 2 ^ μ.order ≤ 1024 → ent e (isMap m μ.grown :: r) (K ())) (h2 : 1024 < μ.n + 2 ^ μ.order → ent e l (K ())) (t : Take l (isMap m μ) r := by with_reducible first | assumption | ((repeat (first | exact .here | apply Take.there)); done)) :
    ent e l ((wpM PR).call 53 [vP m] [] K KP) := by
  refine ent_call (fn := Go.Proofs.Try.f53) (by kernel_rfl) ?_
  rw [nf53_eq]
  refine ent_map_ok (fun ok => ?_) t
  have ho := ok.order
  have hn := ok.n
  have hpw := pow_le8 ho
  have hp0 : 0 < 2 ^ μ.order := Nat.pow_pos (by omega)
  refine ent_map_len (fun s1 hs1 => ?_) t
  refine size_ct ?_ t
  rw [hs1, wI_of (by omega) (by omega)]
  refine ent_gt (fun c => h2 (by omega)) (fun c => ?_)
  refine ent_draw ?_
  refine ent_map (fun ps qs ptrs _ hl1 hl2 => ?_) t
  refine ent_ld ps ?_
  refine ent_call (fn := Go.Proofs.Try.f106) (by kernel_rfl) ?_
  rw [nf106_eq]
  refine ent_ld (μ.order : Int) ?_
  refine ent_g0 (by omega) ?_
  rw [shl_nat (by omega)]
  refine ent_keep' (fun w hw y hy => ?_) ?_
  · simp only [List.mem_singleton] at hy; subst hy
    exact hw.rowAt .here (fun i v hv => by
      cases i with
      | zero => simp at hv ⊢; exact hv
      | succ i => simp at hv)
  refine ent_appendZ (xs := tab μ.n μ.pages) pg_elem (ku := .i64) (by kernel_rfl) rfl (by decide) (2 ^ μ.order) rfl hp0 (by rw [tab_len]; omega) (by rw [tab_len]; omega) (fun s5 hs5 => ?_)
  refine ent_st ?_
  have hs5 : s5.len = μ.n + 2 ^ μ.order := by rw [hs5, tab_len]
  rw [tab_replicate, tab_append]
  refine ent_blk [vI μ.order, .slice s5.base s5.len s5.cap, .slice qs.base qs.len qs.cap] ?_
  refine paired_ct (ps := s5) (n0 := μ.n) (f := μ.pairs) (n := μ.n + 2 ^ μ.order) ho (by omega) hs5 ?_
  have ok2 : Mp.Ok ⟨μ.order, μ.n + 2 ^ μ.order, fun i => if i < μ.n then μ.pages i else pg0, fun k i => μ.pairs k i && decide (i < μ.n / 2 ^ (k + 1))⟩ := by
    refine ⟨ho, by show μ.n + 2 ^ μ.order ≤ 1024; omega, ?_, fun i hi => ?_⟩
    · show (μ.n + 2 ^ μ.order) % 2 ^ μ.order = 0
      rw [Nat.add_mod_right]; exact ok.whole
    · show FitPg μ.order (if i < μ.n then μ.pages i else pg0)
      split
      · rename_i hi; exact ok.fits i hi
      · exact FitPg.zero
  refine ent_sub (sub_map (m := m) (ps := s5) (qs := qs) (ptrs := ptrs) (l' := r) ⟨μ.order, μ.n + 2 ^ μ.order, fun i => if i < μ.n then μ.pages i else pg0, fun k i => μ.pairs k i && decide (i < μ.n / 2 ^ (k + 1))⟩ ok2 (by repeat (first | exact Sub.refl | refine Sub.cons (by with_reducible first | assumption | ((repeat (first | exact .here | apply Take.there)); done)) ?_ | refine Sub.drop ?_))) ?_
  refine ent_map_order ?_
  refine run_ct (fun p k hp hk hz hko hm hnn => ?_) (fun hno => ?_) .here
  · obtain rfl : μ.n = p := by omega
    obtain rfl : μ.order = k := by
      have hk : (μ.order : Int) = k := hk
      omega
    exact h1 (by omega)
  · exact absurd ⟨μ.n, μ.order, rfl, rfl, .inr rfl, Nat.le_refl _, ok.whole, Nat.le_refl _⟩ hno

def Mp.less (μ : Mp) (j : Nat) : Mp := { μ with n := μ.n - j * 2 ^ μ.order, pairs := fun k i => μ.pairs k i && decide (i < μ.n / 2 ^ (k + 1)) }

theorem less_le {μ : Mp} {j : Nat} (h : j ≤ μ.n / 2 ^ μ.order) : j * 2 ^ μ.order ≤ μ.n := by
  have := Nat.mul_le_mul_right (2 ^ μ.order) h
  have := Nat.div_mul_le_self μ.n (2 ^ μ.order)
  omega

theorem Mp.Ok.less {μ : Mp} (ok : μ.Ok) {j : Nat} (h : j ≤ μ.n / 2 ^ μ.order) : (μ.less j).Ok := by
  have h1 := less_le h
  refine ⟨ok.order, by have := ok.n; show μ.n - j * 2 ^ μ.order ≤ 1024; omega, ?_, fun i hi => ok.fits i (by have hi : i < μ.n - j * 2 ^ μ.order := hi; omega)⟩
  show (μ.n - j * 2 ^ μ.order) % 2 ^ μ.order = 0
  have := Nat.sub_mul_mod (x := μ.n) (k := j) (n := 2 ^ μ.order) (by rw [Nat.mul_comm]; exact h1)
  rw [Nat.mul_comm] at this
  rw [this]; exact ok.whole

theorem shrinkMap_ct {m : Nat} {μ : Mp} {x : Int} {K : Tup [sI] → World → Prop} {KP : List PanicEntry → World → Prop}
    (h1 : ∀ j : Nat, x = j → j ≤ μ.n / 2 ^ μ.order → ent e (isMap m (μ.less j) :: r) (K (0, ()))) (h2 : (x < 0 ∨ ((μ.n / 2 ^ μ.order : Nat) : Int) < x) → ent e l (K (1, ()))) (t : Take l (isMap m μ) r := by with_reducible first | assumption | ((repeat (first | exact .here | apply Take.there)); done)) :
    ent e l ((wpM PR).call 54 [vP m, vI x] [sI] K KP) := by
  refine ent_call (fn := Go.Proofs.Try.f54) (by kernel_rfl) ?_
  rw [nf54_eq]
  refine ent_map_ok (fun ok => ?_) t
  have ho := ok.order
  have hn := ok.n
  have hpw := pow_le8 ho
  have hp0 : 0 < 2 ^ μ.order := Nat.pow_pos (by omega)
  refine ent_joinP (A := Unit) (fun _ _ => 0 ≤ x ∧ x ≤ ((μ.n / 2 ^ μ.order : Nat) : Int)) (fun _ => l) (fun _ _ hp => ?_) (fun kk hkk => ?_)
  · obtain ⟨j, rfl⟩ : ∃ j : Nat, x = j := ⟨x.toNat, by omega⟩
    have hj : j ≤ μ.n / 2 ^ μ.order := by omega
    have hle := less_le hj
    refine ent_draw ?_
    refine ent_map (fun ps qs ptrs _ hl1 hl2 => ?_) t
    refine ent_ld ps ?_
    refine ent_ld ps ?_
    refine ent_call (fn := Go.Proofs.Try.f106) (by kernel_rfl) ?_
    rw [nf106_eq]
    refine ent_ld (μ.order : Int) ?_
    refine ent_g0 (by omega) ?_
    rw [shl_nat (by omega)]
    refine ent_keep' (fun w hw y hy => ?_) ?_
    · have : y = ({ block := m, off := 1 }, [.slice ps.base ps.len ps.cap]) := by simpa using hy
      subst this
      exact hw.rowAt .here (fun i v hv => by
        cases i with
        | zero => simp at hv ⊢; exact hv
        | succ i => simp at hv)
    refine ent_cap (.there .here) fun _ hcap => ?_
    have e1 : wI ((j : Int) * ((2 ^ μ.order : Nat) : Int)) = ((j * 2 ^ μ.order : Nat) : Int) := by rw [← Int.natCast_mul, wI_nat (by omega)]
    have e2 : wI ((ps.len : Int) - ((j * 2 ^ μ.order : Nat) : Int)) = ((μ.n - j * 2 ^ μ.order : Nat) : Int) := by rw [wI_of (by omega) (by omega)]; omega
    show ent e _ ((wpM PR).guard ((0 : Int) ≤ 0 ∧ 0 ≤ wI ((ps.len : Int) - wI ((j : Int) * ((2 ^ μ.order : Nat) : Int))) ∧ wI ((ps.len : Int) - wI ((j : Int) * ((2 ^ μ.order : Nat) : Int))) ≤ (ps.cap : Int) ∧ (ps.cap : Int) ≤ (ps.cap : Int)) _)
    rw [e1, e2]
    refine ent_guard (by omega) ?_
    refine ent_st ?_
    have hb : (if ps.cap = 0 then ps.base else ps.base.map fun x => x.add 0) = ps.base := base_zero
    refine ent_blk [vI μ.order, .slice (if ps.cap = 0 then ps.base else ps.base.map fun x => x.add 0) (μ.n - j * 2 ^ μ.order) ps.cap, .slice qs.base qs.len qs.cap] ?_
    rw [hb]
    have q1 : μ.n - j * 2 ^ μ.order ≤ (tab μ.n μ.pages).length := by rw [tab_len]; omega
    refine ent_arr_take (s := ps) (μ.n - j * 2 ^ μ.order) ⟨ps.base, μ.n - j * 2 ^ μ.order, ps.cap⟩ q1 rfl rfl rfl ?_ (.there .here)
    rw [tab_take (by omega)]
    refine paired_ct (ps := ⟨ps.base, μ.n - j * 2 ^ μ.order, ps.cap⟩) (qs := qs) (n0 := μ.n) (f := μ.pairs) (n := μ.n - j * 2 ^ μ.order) ho (by omega) rfl ?_
    exact ent_sub (sub_map (m := m) (ps := ⟨ps.base, μ.n - j * 2 ^ μ.order, ps.cap⟩) (qs := qs) (ptrs := ptrs) (l' := r) (μ.less j) (ok.less hj) (by repeat (first | exact Sub.refl | refine Sub.cons (by with_reducible first | assumption | ((repeat (first | exact .here | apply Take.there)); done)) ?_ | refine Sub.drop ?_))) (h1 j rfl hj)
  · refine ent_draw ?_
    refine ent_lt (fun c => h2 (.inl c)) (fun c => ?_)
    refine ent_map (fun ps qs ptrs _ hl1 hl2 => ?_) t
    refine ent_ld ps ?_
    refine ent_call (fn := Go.Proofs.Try.f106) (by kernel_rfl) ?_
    rw [nf106_eq]
    refine ent_ld (μ.order : Int) ?_
    refine ent_g0 (by omega) ?_
    rw [shl_nat (by omega)]
    refine ent_keep' (fun w hw y hy => ?_) ?_
    · simp only [List.mem_singleton] at hy; subst hy
      exact hw.rowAt .here (fun i v hv => by
        cases i with
        | zero => simp at hv ⊢; exact hv
        | succ i => simp at hv)
    refine ent_gn (show ((2 ^ μ.order : Nat) : Int) ≠ 0 by omega) ?_
    have e3 : wI ((ps.len : Int).tdiv ((2 ^ μ.order : Nat) : Int)) = ((μ.n / 2 ^ μ.order : Nat) : Int) := by
      rw [hl1, tdiv_nat, wI_nat (by have := Nat.div_le_self μ.n (2 ^ μ.order); omega)]
    show ent e _ (bif decide (x > wI ((ps.len : Int).tdiv ((2 ^ μ.order : Nat) : Int))) then _ else _)
    rw [e3]
    refine ent_gt (fun c2 => ?_) (fun c2 => ?_)
    · exact ent_sub (Sub.trans (sub_map μ ok (by repeat (first | exact Sub.refl | refine Sub.cons (by with_reducible first | assumption | ((repeat (first | exact .here | apply Take.there)); done)) ?_ | refine Sub.drop ?_))) (Sub.untake t)) (h2 (.inr (by omega)))
    · exact ent_sub (Sub.trans (sub_map μ ok (by repeat (first | exact Sub.refl | refine Sub.cons (by with_reducible first | assumption | ((repeat (first | exact .here | apply Take.there)); done)) ?_ | refine Sub.drop ?_))) (Sub.untake t)) (hkk () _ ⟨c, by omega⟩)

theorem emp_star_arr {t : TypeId} {sh : Shp} {q : HP} {h : Heap} (y : q h) : star (arr t sh ⟨none, 0, 0⟩ []) q h := star_mono (fun _ z => .inl ⟨rfl, rfl, z⟩) (fun _ z => z) (emp_star y)
theorem emp_star_each {f : Nat → HP} {q : HP} {h : Heap} (y : q h) : star (each 0 f) q h := emp_star y

theorem sets_elem : Elem PR 160 179 sP none 8 := .of (by kernel_rfl) (by kernel_rfl)

theorem newMap_ct {x : Int} {K : Tup [sP] → World → Prop} {KP : List PanicEntry → World → Prop} (O : Nat) (hx : x = O) (hO : O ≤ 8)
    (h : ∀ m, ent e (isMap m ⟨O, 0, fun _ => pg0, fun _ _ => false⟩ :: l) (K (some ⟨m, 0, none⟩, ()))) :
    ent e l ((wpM PR).call 74 [vI x] [sP] K KP) := by
  subst hx
  refine ent_call (fn := Go.Proofs.Try.f74) (by kernel_rfl) ?_
  rw [nf74_eq]
  have e0 : (if (if (8 : Int) < (O : Int) then 8 else (O : Int)) > 0 then (if (8 : Int) < (O : Int) then 8 else (O : Int)) else 0) = (O : Int) := by
    rw [if_neg (show ¬ (8 : Int) < (O : Int) by omega)]; split <;> omega
  refine ent_new fun m => ?_
  refine ent_blk [vI (O : Int), .slice none 0 0, .slice none 0 0] ?_ (by rw [e0])
  refine ent_ld (O : Int) ?_
  refine ent_loop (S := Nat × Sl × (Nat → Nat)) (fun j => ((j.1 : Int), ())) (fun j => blk m 162 [vI O, .slice none 0 0, .slice j.2.1.base j.2.1.len j.2.1.cap] :: arr 179 sP j.2.1 (tab j.1 fun k => (some ⟨j.2.2 k, 0, none⟩ : Option Addr)) ::
    each j.1 (fun k => isSet (j.2.2 k) (0 / 2 ^ (k + 1)) fun _ => false) :: l) (fun j => j.1 ≤ O) (fun j => O - j.1) (0, ⟨none, 0, 0⟩, fun _ => 0) rfl (Nat.zero_le _) ?_ ?_
  · intro hh y
    refine star_mono (fun _ z => z) (fun _ z => ?_) y
    exact emp_star_arr (emp_star_each z)
  · rintro kk ⟨j, s, ptrs⟩ hj hk
    simp only at hj hk ⊢
    refine ent_lt (fun c => ?_) (fun c => ?_)
    · have hjO : j < O := by have c : (j : Int) < (O : Int) := c; omega
      refine ent_draw ?_
      refine ent_ld s ?_
      refine newSet_ct 0 rfl (by omega) (fun _ => false) (fun _ _ => rfl) fun b => ?_
      refine ent_keep' (fun w hw y hy => ?_) ?_
      · simp only [List.mem_singleton] at hy; subst hy
        exact hw.rowAt (.there .here) (fun i v hv => by
          cases i with
          | zero => simp at hv ⊢; exact hv
          | succ i => simp at hv)
      refine ent_new fun b7 => ?_
      refine ent_keep' (fun w hw y hy => ?_) ?_
      · simp only [List.mem_singleton] at hy; subst hy
        exact hw.rowAt (.there (.there .here)) (fun i v hv => by
          cases i with
          | zero => simp at hv ⊢; exact hv
          | succ i => simp at hv)
      refine ent_append1 (xs := tab j fun k => (some ⟨ptrs k, 0, none⟩ : Option Addr)) sets_elem rfl (by decide) (some ⟨b, 0, none⟩) (.there (.there (.there .here))) .here rfl (by rw [tab_len]; omega) (by rw [tab_len]; omega) fun s8 hs8 => ?_
      rw [tab_snoc]
      refine ent_st ?_
      refine ent_blk [vI (O : Int), .slice none 0 0, .slice s8.base s8.len s8.cap] ?_
      rw [show wI ((j : Int) + 1) = ((j + 1 : Nat) : Int) by rw [wI_of (by omega) (by omega)]; omega]
      refine ent_sub ?_ (hk (j + 1, s8, set1 ptrs j b) (by simp only; omega) (by simp only; omega))
      simp only
      rw [tab_congr (n := j + 1) (g := fun k => (some ⟨set1 ptrs j b k, 0, none⟩ : Option Addr)) (fun i hi => ?_)]
      · refine Sub.cons (by with_reducible first | assumption | ((repeat (first | exact .here | apply Take.there)); done)) (Sub.cons (by with_reducible first | assumption | ((repeat (first | exact .here | apply Take.there)); done)) (Sub.each_snoc ?_))
        rw [set1_same]
        refine Sub.cons (r := each j (fun k => isSet (ptrs k) (0 / 2 ^ (k + 1)) fun _ => false) :: l) (by rw [Nat.zero_div]; exact .here) (Sub.each_congr (f := fun k => isSet (ptrs k) (0 / 2 ^ (k + 1)) fun _ => false) (fun i hi => ?_) .refl)
        rw [set1_other (by omega)]
      · by_cases hij : i = j
        · subst hij; rw [set1_same, set1_same]
        · rw [set1_other hij, set1_other hij]
    · obtain rfl : j = O := by have c : (O : Int) ≤ (j : Int) := c; omega
      refine ent_sub ?_ (h m)
      refine sub_map (ps := ⟨none, 0, 0⟩) (qs := s) (ptrs := ptrs) (O := j) (n := 0) (pages := fun _ => pg0) (pairs := fun _ _ => false) ⟨j, 0, fun _ => pg0, fun _ _ => false⟩ ⟨hO, by show 0 ≤ 1024; omega, Nat.zero_mod _, fun i hi => by have hi : i < 0 := hi; omega⟩ ?_
      exact Sub.cons .here (Sub.arr_nil .refl)

end Go.Proofs.Ytdmfnlcbfmahhaa
