/- Pages in blocks, by plain numbers and lists: what taking, giving, cutting and joining blocks does. No program here. -/
import Derived.Laws.Sem
namespace Go.Proofs.Ytdmfnlcbfmahhaa
namespace Bd

/-! ## Powers of two -/

theorem pow_pos (k : Nat) : 0 < 2 ^ k := Nat.pow_pos (by omega)

theorem div_mono {p q j k : Nat} (h : q / 2 ^ j = p / 2 ^ j) (hjk : j ≤ k) : q / 2 ^ k = p / 2 ^ k := by
  obtain ⟨m, rfl⟩ : ∃ m, k = j + m := ⟨k - j, by omega⟩
  rw [Nat.pow_add, ← Nat.div_div_eq_div_mul, ← Nat.div_div_eq_div_mul, h]

theorem mod_mono {p j k : Nat} (h : p % 2 ^ k = 0) (hjk : j ≤ k) : p % 2 ^ j = 0 :=
  Nat.mod_eq_zero_of_dvd (Nat.dvd_trans (Nat.pow_dvd_pow 2 hjk) (Nat.dvd_of_mod_eq_zero h))

theorem start_eq {p q k : Nat} (h : q / 2 ^ k = p / 2 ^ k) (hp : p % 2 ^ k = 0) (hq : q % 2 ^ k = 0) : q = p := by
  have h1 := Nat.div_add_mod p (2 ^ k)
  have h2 := Nat.div_add_mod q (2 ^ k)
  rw [h] at h2; omega

theorem in_block {p q k : Nat} (hp : p % 2 ^ k = 0) : q / 2 ^ k = p / 2 ^ k ↔ p ≤ q ∧ q < p + 2 ^ k := by
  have h1 := Nat.div_add_mod p (2 ^ k)
  have h2 := Nat.div_add_mod q (2 ^ k)
  have h3 := Nat.mod_lt q (pow_pos k)
  constructor
  · intro h; rw [h] at h2; omega
  · rintro ⟨h4, h5⟩
    obtain ⟨x, rfl⟩ : ∃ x, q = p + x := ⟨q - p, by omega⟩
    have hx : x < 2 ^ k := by omega
    have hp' : p = 2 ^ k * (p / 2 ^ k) := by omega
    rw [hp', Nat.mul_add_div (pow_pos k), Nat.div_eq_of_lt hx, Nat.mul_div_cancel_left _ (pow_pos k), Nat.add_zero]

theorem block_lt {p q k O n : Nat} (hn : n % 2 ^ O = 0) (hk : k ≤ O) (hp : p < n) (h : q / 2 ^ k = p / 2 ^ k) : q < n := by
  have hn := mod_mono hn hk
  have h1 := Nat.div_add_mod n (2 ^ k)
  have h2 : p / 2 ^ k < n / 2 ^ k := by
    rw [Nat.div_lt_iff_lt_mul (pow_pos k)]
    have : n / 2 ^ k * 2 ^ k = n := by rw [Nat.mul_comm]; omega
    omega
  rw [← h, Nat.div_lt_iff_lt_mul (pow_pos k)] at h2
  have : n / 2 ^ k * 2 ^ k = n := by rw [Nat.mul_comm]; omega
  omega

/-- The other half of a block of the next order. -/
def bud (k p : Nat) : Nat := if p / 2 ^ k % 2 = 0 then p + 2 ^ k else p - 2 ^ k

/-- Where the block of the next order begins. -/
def low (k p : Nat) : Nat := p / 2 ^ (k + 1) * 2 ^ (k + 1)

theorem div_succ (p k : Nat) : p / 2 ^ (k + 1) = p / 2 ^ k / 2 := by rw [Nat.pow_succ, Nat.div_div_eq_div_mul]

theorem bud_facts {k p : Nat} (hp : p % 2 ^ k = 0) : bud k p % 2 ^ k = 0 ∧ bud k p ≠ p ∧ bud k p / 2 ^ (k + 1) = p / 2 ^ (k + 1) ∧ bud k (bud k p) = p ∧
    (∀ q, q / 2 ^ (k + 1) = p / 2 ^ (k + 1) ↔ q / 2 ^ k = p / 2 ^ k ∨ q / 2 ^ k = bud k p / 2 ^ k) ∧ low k p % 2 ^ (k + 1) = 0 ∧ low k p / 2 ^ (k + 1) = p / 2 ^ (k + 1) ∧
    (low k p = p ∧ bud k p = p + 2 ^ k ∨ low k p = bud k p ∧ p = bud k p + 2 ^ k) := by
  have h2 := pow_pos k
  obtain ⟨m, rfl⟩ : ∃ m, p = m * 2 ^ k := ⟨p / 2 ^ k, by have := Nat.div_add_mod p (2 ^ k); rw [Nat.mul_comm]; omega⟩
  have hm : m * 2 ^ k / 2 ^ k = m := Nat.mul_div_cancel _ h2
  have hb : bud k (m * 2 ^ k) = (if m % 2 = 0 then m + 1 else m - 1) * 2 ^ k := by
    unfold bud; rw [hm]; split
    · rw [Nat.add_mul, Nat.one_mul]
    · rw [Nat.sub_mul, Nat.one_mul]
  have hl : low k (m * 2 ^ k) = (m / 2 * 2) * 2 ^ k := by unfold low; rw [div_succ, hm, Nat.pow_succ, Nat.mul_comm (2 ^ k) 2, Nat.mul_assoc]
  have hbd : bud k (m * 2 ^ k) / 2 ^ k = (if m % 2 = 0 then m + 1 else m - 1) := by rw [hb, Nat.mul_div_cancel _ h2]
  have hmod : ∀ n, n * 2 ^ k % 2 ^ k = 0 := fun n => Nat.mul_mod_left _ _
  refine ⟨by rw [hb]; exact hmod _, ?_, ?_, ?_, ?_, ?_, ?_, ?_⟩
  · rw [hb]; intro h
    have := Nat.eq_of_mul_eq_mul_right h2 h
    split at this <;> omega
  · rw [div_succ, div_succ, hbd, hm]; split <;> omega
  · have : bud k (bud k (m * 2 ^ k)) = (if (if m % 2 = 0 then m + 1 else m - 1) % 2 = 0 then (if m % 2 = 0 then m + 1 else m - 1) + 1 else (if m % 2 = 0 then m + 1 else m - 1) - 1) * 2 ^ k := by
      rw [hb]; generalize (if m % 2 = 0 then m + 1 else m - 1) = m'
      unfold bud; rw [Nat.mul_div_cancel _ h2]; split
      · rw [Nat.add_mul, Nat.one_mul]
      · rw [Nat.sub_mul, Nat.one_mul]
    rw [this]; congr 1
    by_cases h : m % 2 = 0 <;> simp only [h, if_true, if_false] <;> split <;> omega
  · intro q
    rw [div_succ, div_succ, hbd, hm]
    generalize q / 2 ^ k = x
    split <;> omega
  · unfold low; exact Nat.mul_mod_left _ _
  · unfold low; rw [Nat.mul_div_cancel _ (pow_pos (k + 1))]
  · rw [hl, hb]
    by_cases h : m % 2 = 0
    · left
      rw [if_pos h, show m / 2 * 2 = m by omega, Nat.add_mul, Nat.one_mul]; exact ⟨rfl, rfl⟩
    · right
      rw [if_neg h, show m / 2 * 2 = m - 1 by omega]
      refine ⟨rfl, ?_⟩
      rw [← Nat.succ_mul]; congr 1; omega

/-! ## The blocks -/

structure D where
  O : Nat
  pages : Nat
  free : Nat → List Nat
  live : List (Nat × Nat)
  c : Nat → Nat × Nat

def paint (c : Nat → Nat × Nat) (p k : Nat) (v : Nat × Nat) : Nat → Nat × Nat := fun q => if q / 2 ^ k = p / 2 ^ k then v else c q

def upd (f : Nat → List Nat) (k : Nat) (l : List Nat) : Nat → List Nat := fun j => if j = k then l else f j

/-- The pages' colours are those of whole blocks. -/
structure Cov (O n : Nat) (c : Nat → Nat × Nat) : Prop where
  whole : n % 2 ^ O = 0
  le : ∀ p, p < n → (c p).2 ≤ O
  block : ∀ p q, p < n → q / 2 ^ (c p).2 = p / 2 ^ (c p).2 → c q = c p

/-- A block of a kind begins here. -/
def At (n : Nat) (c : Nat → Nat × Nat) (z : Nat) (p k : Nat) : Prop := p < n ∧ c p = (z, k) ∧ p % 2 ^ k = 0

/-- The colours are those of whole blocks: free ones, live ones, and at most one that is in the hand. -/
structure Inv (d : D) (h : Option (Nat × Nat)) : Prop where
  cov : Cov d.O d.pages d.c
  free : ∀ k p, p ∈ d.free k ↔ At d.pages d.c 0 p k
  live : ∀ k p, (p, k) ∈ d.live ↔ At d.pages d.c 1 p k
  hole : ∀ k p, h = some (p, k) ↔ At d.pages d.c 2 p k
  nodup : ∀ k, (d.free k).Nodup
  nolive : d.live.Nodup
  kinds : ∀ p, p < d.pages → (d.c p).1 ≤ 2
  alone : ∀ k p, k < d.O → p ∈ d.free k → bud k p ∉ d.free k

theorem Cov.paint {O n : Nat} {c : Nat → Nat × Nat} (h : Cov O n c) {p k z : Nat} (hk : k ≤ O) (hu : ∀ r, r / 2 ^ k = p / 2 ^ k → (c r).2 ≤ k) : Cov O n (paint c p k (z, k)) := by
  refine ⟨h.whole, fun q hq => ?_, fun p1 q1 hp hq => ?_⟩
  · unfold Bd.paint; split
    · exact hk
    · exact h.le q hq
  · unfold Bd.paint at hq ⊢
    by_cases h1 : p1 / 2 ^ k = p / 2 ^ k
    · rw [if_pos h1] at hq
      rw [if_pos (hq.trans h1), if_pos h1]
    · rw [if_neg h1] at hq
      have hb := h.block p1 q1 hp hq
      by_cases h2 : q1 / 2 ^ k = p / 2 ^ k
      · have := hu q1 h2
        rw [hb] at this
        exact absurd ((div_mono hq this).symm.trans h2) h1
      · rw [if_neg h2, if_neg h1]; exact hb

theorem paint_at {n : Nat} {c : Nat → Nat × Nat} {p k z : Nat} (hn : p < n) (hp : p % 2 ^ k = 0) (w q j : Nat) :
    At n (paint c p k (z, k)) w q j ↔ (w = z ∧ q = p ∧ j = k) ∨ (q / 2 ^ k ≠ p / 2 ^ k ∧ At n c w q j) := by
  unfold At Bd.paint
  by_cases h : q / 2 ^ k = p / 2 ^ k
  · rw [if_pos h]
    constructor
    · rintro ⟨h1, h2, h3⟩
      injection h2 with h2 h4
      subst h2 h4
      exact .inl ⟨rfl, start_eq h hp h3, rfl⟩
    · rintro (⟨rfl, rfl, rfl⟩ | ⟨h1, _⟩)
      · exact ⟨hn, rfl, hp⟩
      · exact absurd h h1
  · rw [if_neg h]
    constructor
    · intro h1; exact .inr ⟨h, h1⟩
    · rintro (⟨rfl, rfl, rfl⟩ | ⟨_, h1⟩)
      · exact absurd rfl h
      · exact h1

theorem Cov.at_in {O n : Nat} {c : Nat → Nat × Nat} (h : Cov O n c) {y p k w q j : Nat} (hp : At n c y p k) (hq : At n c w q j) (hb : q / 2 ^ k = p / 2 ^ k) : q = p ∧ w = y ∧ j = k := by
  obtain ⟨h1, h2, h3⟩ := hp
  obtain ⟨h4, h5, h6⟩ := hq
  have := h.block p q h1 (by rw [h2]; exact hb)
  rw [h5, h2] at this
  injection this with e1 e2
  subst e1 e2
  exact ⟨start_eq hb h3 h6, rfl, rfl⟩

/-- A whole block changes its kind. -/
theorem recolour {O n : Nat} {c : Nat → Nat × Nat} (h : Cov O n c) {y p k z : Nat} (hp : At n c y p k) (hz : z ≠ y) :
    Cov O n (paint c p k (z, k)) ∧ ∀ w q j, At n (paint c p k (z, k)) w q j ↔ if w = z then (q = p ∧ j = k) ∨ At n c w q j else if w = y then q ≠ p ∧ At n c w q j else At n c w q j := by
  obtain ⟨h1, h2, h3⟩ := hp
  have hk : k ≤ O := by have := h.le p h1; rw [h2] at this; exact this
  refine ⟨h.paint hk fun r hr => ?_, fun w q j => ?_⟩
  · have := h.block p r h1 (by rw [h2]; exact hr)
    rw [this, h2]; exact Nat.le_refl _
  · rw [paint_at h1 h3]
    constructor
    · rintro (⟨rfl, rfl, rfl⟩ | ⟨hn, ha⟩)
      · rw [if_pos rfl]; exact .inl ⟨rfl, rfl⟩
      · split
        · exact .inr ha
        · split
          · exact ⟨fun e => hn (by rw [e]), ha⟩
          · exact ha
    · have out : ∀ w q j, At n c w q j → (w ≠ y ∨ q ≠ p) → q / 2 ^ k ≠ p / 2 ^ k := by
        intro w q j ha ho hb
        have := h.at_in ⟨h1, h2, h3⟩ ha hb
        rcases ho with ho | ho
        · exact ho this.2.1
        · exact ho this.1
      split
      · rename_i hw
        subst hw
        rintro (⟨rfl, rfl⟩ | ha)
        · exact .inl ⟨rfl, rfl, rfl⟩
        · exact .inr ⟨out _ _ _ ha (.inl hz), ha⟩
      · split
        · rintro ⟨hq, ha⟩; exact .inr ⟨out _ _ _ ha (.inr hq), ha⟩
        · rename_i hw; intro ha; exact .inr ⟨out _ _ _ ha (.inl hw), ha⟩

/-- A block in the hand is cut: the upper half is free. -/
def halve (c : Nat → Nat × Nat) (p k : Nat) : Nat → Nat × Nat := paint (paint c p (k + 1) (2, k)) (p + 2 ^ k) k (0, k)

theorem half_facts {p k : Nat} (hp : p % 2 ^ (k + 1) = 0) : p % 2 ^ k = 0 ∧ (p + 2 ^ k) % 2 ^ k = 0 ∧ (p + 2 ^ k) / 2 ^ k = p / 2 ^ k + 1 ∧ (p + 2 ^ k) / 2 ^ (k + 1) = p / 2 ^ (k + 1) ∧
    bud k p = p + 2 ^ k ∧ bud k (p + 2 ^ k) = p ∧ ∀ q, q / 2 ^ (k + 1) = p / 2 ^ (k + 1) ↔ q / 2 ^ k = p / 2 ^ k ∨ q / 2 ^ k = (p + 2 ^ k) / 2 ^ k := by
  have h1 : p % 2 ^ k = 0 := mod_mono hp (by omega)
  have h2 := pow_pos k
  have h3 : (p + 2 ^ k) / 2 ^ k = p / 2 ^ k + 1 := Nat.add_div_right _ h2
  have hb : p / 2 ^ k % 2 = 0 := by
    obtain ⟨m, rfl⟩ : ∃ m, p = m * 2 ^ (k + 1) := ⟨p / 2 ^ (k + 1), by have := Nat.div_add_mod p (2 ^ (k + 1)); rw [Nat.mul_comm]; omega⟩
    rw [Nat.pow_succ, Nat.mul_comm (2 ^ k) 2, ← Nat.mul_assoc, Nat.mul_div_cancel _ h2]; omega
  have hbu : bud k p = p + 2 ^ k := by unfold bud; rw [if_pos hb]
  have hf := bud_facts h1
  rw [hbu] at hf
  refine ⟨h1, hf.1, h3, hf.2.2.1, hbu, hf.2.2.2.1, hf.2.2.2.2.1⟩

theorem halve_at {O n : Nat} {c : Nat → Nat × Nat} (h : Cov O n c) {p k : Nat} (hp : At n c 2 p (k + 1)) :
    Cov O n (halve c p k) ∧ ∀ w q j, At n (halve c p k) w q j ↔ (w = 2 ∧ q = p ∧ j = k) ∨ (w = 0 ∧ q = p + 2 ^ k ∧ j = k) ∨ (At n c w q j ∧ q ≠ p) := by
  obtain ⟨h1, h2, h3⟩ := hp
  obtain ⟨f1, f2, f3, f4, f5, f6, f7⟩ := half_facts h3
  have hk : k + 1 ≤ O := by have := h.le p h1; rw [h2] at this; exact this
  have hin : ∀ r, r / 2 ^ (k + 1) = p / 2 ^ (k + 1) → c r = (2, k + 1) := fun r hr => by
    have := h.block p r h1 (by rw [h2]; exact hr)
    rw [this, h2]
  have hval : ∀ q, halve c p k q = if q / 2 ^ k = p / 2 ^ k then (2, k) else if q / 2 ^ k = p / 2 ^ k + 1 then (0, k) else c q := by
    intro q
    unfold halve Bd.paint
    rw [f3]
    by_cases ha : q / 2 ^ k = p / 2 ^ k
    · rw [if_neg (by omega), if_pos ((f7 q).2 (.inl ha)), if_pos ha]
    · by_cases hb : q / 2 ^ k = p / 2 ^ k + 1
      · rw [if_pos hb, if_neg ha, if_pos hb]
      · rw [if_neg hb, if_neg ha, if_neg hb, if_neg (fun hc => ((f7 q).1 hc).elim ha (fun x => hb (by rw [x, f3])))]
  have hin2 : ∀ r, r / 2 ^ k = p / 2 ^ k + 1 → r / 2 ^ (k + 1) = p / 2 ^ (k + 1) := fun r hr => (f7 r).2 (.inr (by rw [f3]; exact hr))
  have hin1 : ∀ r, r / 2 ^ k = p / 2 ^ k → r / 2 ^ (k + 1) = p / 2 ^ (k + 1) := fun r hr => (f7 r).2 (.inl hr)
  have hup : p + 2 ^ k < n := block_lt h.whole hk h1 f4
  refine ⟨⟨h.whole, fun q hq => ?_, fun p1 q1 hp1 hq1 => ?_⟩, fun w q j => ?_⟩
  · rw [hval]; split
    · show k ≤ O; omega
    · split
      · show k ≤ O; omega
      · exact h.le q hq
  · rw [hval] at hq1
    rw [hval, hval]
    by_cases ha : p1 / 2 ^ k = p / 2 ^ k
    · rw [if_pos ha] at hq1; rw [if_pos ha, if_pos (hq1.trans ha)]
    · rw [if_neg ha] at hq1
      by_cases hb : p1 / 2 ^ k = p / 2 ^ k + 1
      · rw [if_pos hb] at hq1
        have hq1 : q1 / 2 ^ k = p1 / 2 ^ k := hq1
        rw [if_neg (by omega), if_pos (by omega), if_neg ha, if_pos hb]
      · rw [if_neg hb] at hq1
        have he := h.block p1 q1 hp1 hq1
        have no : q1 / 2 ^ (k + 1) ≠ p / 2 ^ (k + 1) := by
          intro hc
          have h5 := hin q1 hc
          rw [he] at h5
          rw [h5] at hq1
          have := (f7 p1).1 (hq1.symm.trans hc)
          rcases this with x | x
          · exact ha x
          · exact hb (by rw [x, f3])
        rw [if_neg (fun x => no (hin1 _ x)), if_neg (fun x => no (hin2 _ x)), if_neg ha, if_neg hb]
        exact he
  · unfold At
    rw [hval]
    by_cases ha : q / 2 ^ k = p / 2 ^ k
    · rw [if_pos ha]
      constructor
      · rintro ⟨a1, a2, a3⟩
        injection a2 with a2 a4
        subst a2 a4
        exact .inl ⟨rfl, start_eq ha f1 a3, rfl⟩
      · rintro (⟨rfl, rfl, rfl⟩ | ⟨rfl, rfl, rfl⟩ | ⟨⟨a1, a2, a3⟩, a4⟩)
        · exact ⟨h1, rfl, f1⟩
        · omega
        · rw [hin q (hin1 q ha)] at a2
          injection a2 with a2 a5
          subst a2 a5
          exact absurd (start_eq (hin1 q ha) h3 a3) a4
    · rw [if_neg ha]
      by_cases hb : q / 2 ^ k = p / 2 ^ k + 1
      · rw [if_pos hb]
        constructor
        · rintro ⟨a1, a2, a3⟩
          injection a2 with a2 a4
          subst a2 a4
          exact .inr (.inl ⟨rfl, start_eq (by rw [f3]; exact hb) f2 a3, rfl⟩)
        · rintro (⟨rfl, rfl, rfl⟩ | ⟨rfl, rfl, rfl⟩ | ⟨⟨a1, a2, a3⟩, a4⟩)
          · omega
          · exact ⟨hup, rfl, f2⟩
          · rw [hin q (hin2 q hb)] at a2
            injection a2 with a2 a5
            subst a2 a5
            exact absurd (start_eq (hin2 q hb) h3 a3) a4
      · rw [if_neg hb]
        constructor
        · intro a; exact .inr (.inr ⟨a, fun e => ha (by rw [e])⟩)
        · rintro (⟨rfl, rfl, rfl⟩ | ⟨rfl, rfl, rfl⟩ | ⟨a, _⟩)
          · exact absurd rfl ha
          · exact absurd f3 hb
          · exact a

/-- A block in the hand and its free other half become one. -/
theorem join_at {O n : Nat} {c : Nat → Nat × Nat} (h : Cov O n c) {p k : Nat} (hp : At n c 2 p k) (hb : At n c 0 (bud k p) k) (hk : k < O) :
    Cov O n (paint c (low k p) (k + 1) (2, k + 1)) ∧ ∀ w q j, At n (paint c (low k p) (k + 1) (2, k + 1)) w q j ↔ (w = 2 ∧ q = low k p ∧ j = k + 1) ∨ (At n c w q j ∧ q ≠ p ∧ q ≠ bud k p) := by
  obtain ⟨f1, f2, f3, f4, f5, f6, f7, f8⟩ := bud_facts hp.2.2
  have hlow : low k p < n := block_lt h.whole hk hp.1 f7
  refine ⟨h.paint hk fun r hr => ?_, fun w q j => ?_⟩
  · rw [f7] at hr
    rcases (f5 r).1 hr with x | x
    · have := h.block p r hp.1 (by rw [hp.2.1]; exact x)
      rw [this, hp.2.1]; show k ≤ k + 1; omega
    · have := h.block (bud k p) r hb.1 (by rw [hb.2.1]; exact x)
      rw [this, hb.2.1]; show k ≤ k + 1; omega
  · rw [paint_at hlow f6, f7]
    constructor
    · rintro (a | ⟨a1, a2⟩)
      · exact .inl a
      · refine .inr ⟨a2, fun e => a1 (by rw [e]), fun e => a1 (by rw [e, f3])⟩
    · rintro (a | ⟨a1, a2, a3⟩)
      · exact .inl a
      · refine .inr ⟨fun e => ?_, a1⟩
        rcases (f5 q).1 e with x | x
        · exact a2 (h.at_in hp a1 x).1
        · exact a3 (h.at_in hb a1 x).1

/-! ## What is done with blocks -/

/-- A free block is taken in the hand. -/
def D.pop (d : D) (k p : Nat) : D := { d with free := upd d.free k ((d.free k).filter (· ≠ p)), c := paint d.c p k (2, k) }
/-- The upper half of the block in the hand, of the next order, is let go. -/
def D.split (d : D) (k p : Nat) : D := { d with free := upd d.free k ((p + 2 ^ k) :: d.free k), c := halve d.c p k }
/-- The block in the hand is live. -/
def D.liven (d : D) (k p : Nat) : D := { d with live := d.live ++ [(p, k)], c := paint d.c p k (1, k) }
/-- A live block is taken in the hand. -/
def D.unlive (d : D) (k p : Nat) : D := { d with live := d.live.filter (·.1 ≠ p), c := paint d.c p k (2, k) }
/-- The block in the hand, and its other half off the list. -/
def D.merge (d : D) (k p : Nat) : D := { d with free := upd d.free k ((d.free k).filter (· ≠ bud k p)), c := paint d.c (low k p) (k + 1) (2, k + 1) }
/-- The block in the hand is free. -/
def D.freed (d : D) (k p : Nat) : D := { d with free := upd d.free k (p :: d.free k), c := paint d.c p k (0, k) }

theorem upd_same {f : Nat → List Nat} {k : Nat} {l : List Nat} : upd f k l k = l := by simp [upd]
theorem upd_other {f : Nat → List Nat} {k j : Nat} {l : List Nat} (h : j ≠ k) : upd f k l j = f j := by simp [upd, h]

theorem mem_upd_filter {f : Nat → List Nat} {k p j q : Nat} : q ∈ upd f k ((f k).filter (· ≠ p)) j ↔ q ∈ f j ∧ ¬ (j = k ∧ q = p) := by
  by_cases h : j = k
  · subst h; rw [upd_same]; simp
  · rw [upd_other h]; simp [h]

theorem mem_upd_cons {f : Nat → List Nat} {k p j q : Nat} : q ∈ upd f k (p :: f k) j ↔ (j = k ∧ q = p) ∨ q ∈ f j := by
  by_cases h : j = k
  · subst h; rw [upd_same]; simp
  · rw [upd_other h]; simp [h]

theorem nodup_filter {l : List Nat} {p : Nat → Bool} (h : l.Nodup) : (l.filter p).Nodup := h.sublist List.filter_sublist

theorem kinds_paint {n : Nat} {c : Nat → Nat × Nat} {p k z : Nat} (h : ∀ p, p < n → (c p).1 ≤ 2) (hz : z ≤ 2) : ∀ q, q < n → (paint c p k (z, k) q).1 ≤ 2 := by
  intro q hq; unfold paint; split
  · exact hz
  · exact h q hq

theorem Inv.nohole {d : D} (h : Inv d none) {p k : Nat} : ¬ At d.pages d.c 2 p k := fun a => by have := (h.hole k p).2 a; cases this

theorem Inv.held {d : D} {p k q j : Nat} (h : Inv d (some (p, k))) (a : At d.pages d.c 2 q j) : q = p ∧ j = k := by
  have := (h.hole j q).2 a
  injection this with e
  injection e with e1 e2
  exact ⟨e1.symm, e2.symm⟩

theorem Inv.pop {d : D} (h : Inv d none) {k p : Nat} (hp : p ∈ d.free k) : Inv (d.pop k p) (some (p, k)) := by
  have ha := (h.free k p).1 hp
  obtain ⟨hc, hat⟩ := recolour h.cov ha (z := 2) (by omega)
  refine ⟨hc, fun j q => ?_, fun j q => ?_, fun j q => ?_, fun j => ?_, h.nolive, kinds_paint h.kinds (by omega), fun j q hj hq => ?_⟩
  · show q ∈ upd _ _ _ j ↔ _
    rw [mem_upd_filter]
    refine Iff.trans ?_ (hat 0 q j).symm
    rw [if_neg (by omega), if_pos rfl, h.free]
    constructor
    · rintro ⟨a1, a2⟩
      refine ⟨fun e => ?_, a1⟩
      subst e
      refine a2 ⟨?_, rfl⟩
      have := a1.2.1.symm.trans ha.2.1
      injection this
    · rintro ⟨a1, a2⟩; exact ⟨a2, fun e => a1 e.2⟩
  · show (q, j) ∈ d.live ↔ _
    rw [h.live]
    refine Iff.trans ?_ (hat 1 q j).symm
    rw [if_neg (by omega), if_neg (by omega)]
  · refine Iff.trans ?_ (hat 2 q j).symm
    rw [if_pos rfl]
    constructor
    · intro e; injection e with e; injection e with e1 e2; exact .inl ⟨e1.symm, e2.symm⟩
    · rintro (⟨rfl, rfl⟩ | a)
      · rfl
      · exact absurd a h.nohole
  · show (upd _ _ _ j).Nodup
    unfold upd; split
    · exact nodup_filter (h.nodup k)
    · exact h.nodup j
  · have hq := (mem_upd_filter.1 hq).1
    exact fun hb => h.alone j q hj hq (mem_upd_filter.1 hb).1

theorem Inv.split {d : D} {k p : Nat} (h : Inv d (some (p, k + 1))) : Inv (d.split k p) (some (p, k)) := by
  have ha := (h.hole (k + 1) p).1 rfl
  obtain ⟨hc, hat⟩ := halve_at h.cov ha
  obtain ⟨f1, f2, f3, f4, f5, f6, f7⟩ := half_facts ha.2.2
  have h2 := pow_pos k
  have hnew : p + 2 ^ k ∉ d.free k := fun hm => by
    have := h.cov.block p (p + 2 ^ k) ha.1 (by rw [ha.2.1]; exact f4)
    rw [((h.free k _).1 hm).2.1, ha.2.1] at this
    cases this
  have hpn : p ∉ d.free k := fun hm => by
    have := ((h.free k _).1 hm).2.1
    rw [ha.2.1] at this
    cases this
  refine ⟨hc, fun j q => ?_, fun j q => ?_, fun j q => ?_, fun j => ?_, h.nolive, fun q hq => ?_, fun j q hj hq => ?_⟩
  · show q ∈ upd _ _ _ j ↔ _
    rw [mem_upd_cons, h.free]
    refine Iff.trans ?_ (hat 0 q j).symm
    constructor
    · rintro (⟨rfl, rfl⟩ | a)
      · exact .inr (.inl ⟨rfl, rfl, rfl⟩)
      · refine .inr (.inr ⟨a, fun e => ?_⟩)
        subst e; have := a.2.1; rw [ha.2.1] at this; cases this
    · rintro (⟨e, _⟩ | ⟨_, rfl, rfl⟩ | ⟨a, _⟩)
      · cases e
      · exact .inl ⟨rfl, rfl⟩
      · exact .inr a
  · show (q, j) ∈ d.live ↔ _
    rw [h.live]
    refine Iff.trans ?_ (hat 1 q j).symm
    constructor
    · intro a
      refine .inr (.inr ⟨a, fun e => ?_⟩)
      subst e; have := a.2.1; rw [ha.2.1] at this; cases this
    · rintro (⟨e, _⟩ | ⟨e, _⟩ | ⟨a, _⟩)
      · cases e
      · cases e
      · exact a
  · refine Iff.trans ?_ (hat 2 q j).symm
    constructor
    · intro e; injection e with e; injection e with e1 e2; exact .inl ⟨rfl, e1.symm, e2.symm⟩
    · rintro (⟨_, rfl, rfl⟩ | ⟨e, _⟩ | ⟨a, b⟩)
      · rfl
      · cases e
      · exact absurd (h.held a).1 b
  · show (upd _ _ _ j).Nodup
    unfold upd; split
    · exact List.nodup_cons.2 ⟨hnew, h.nodup k⟩
    · exact h.nodup j
  · show (paint (paint d.c p (k + 1) (2, k)) (p + 2 ^ k) k (0, k) q).1 ≤ 2
    unfold paint; split
    · exact Nat.zero_le _
    · split
      · exact Nat.le_refl _
      · exact h.kinds q hq
  · intro hb
    replace hq := mem_upd_cons.1 (show q ∈ upd d.free k ((p + 2 ^ k) :: d.free k) j from hq)
    replace hb := mem_upd_cons.1 (show bud j q ∈ upd d.free k ((p + 2 ^ k) :: d.free k) j from hb)
    rcases hq with ⟨rfl, rfl⟩ | hq
    · rw [f6] at hb
      rcases hb with ⟨_, e⟩ | hb
      · omega
      · exact hpn hb
    · rcases hb with ⟨rfl, e⟩ | hb
      · have hq0 := ((h.free j q).1 hq).2.2
        have := (bud_facts hq0).2.2.2.1
        rw [e, f6] at this
        subst this
        exact hpn hq
      · exact h.alone j q hj hq hb

theorem Inv.liven {d : D} {k p : Nat} (h : Inv d (some (p, k))) : Inv (d.liven k p) none := by
  have ha := (h.hole k p).1 rfl
  obtain ⟨hc, hat⟩ := recolour h.cov ha (z := 1) (by omega)
  refine ⟨hc, fun j q => ?_, fun j q => ?_, fun j q => ?_, h.nodup, ?_, kinds_paint h.kinds (by omega), h.alone⟩
  · show q ∈ d.free j ↔ _
    rw [h.free]
    refine Iff.trans ?_ (hat 0 q j).symm
    rw [if_neg (by omega), if_neg (by omega)]
  · refine Iff.trans ?_ (hat 1 q j).symm
    rw [if_pos rfl, ← h.live]
    show (q, j) ∈ d.live ++ [(p, k)] ↔ _
    simp only [List.mem_append, List.mem_singleton, Prod.mk.injEq]
    exact Or.comm
  · refine Iff.trans ?_ (hat 2 q j).symm
    rw [if_neg (by omega), if_pos rfl]
    constructor
    · intro e; cases e
    · rintro ⟨a, b⟩; exact absurd (h.held b).1 a
  · show (d.live ++ [(p, k)]).Nodup
    rw [List.nodup_append]
    refine ⟨h.nolive, by simp, fun a ha' b hb => ?_⟩
    simp only [List.mem_singleton] at hb
    subst hb
    intro e; subst e
    have := ((h.live k p).1 ha').2.1
    rw [ha.2.1] at this; cases this

theorem Inv.unlive {d : D} (h : Inv d none) {k p : Nat} (hp : (p, k) ∈ d.live) : Inv (d.unlive k p) (some (p, k)) := by
  have ha := (h.live k p).1 hp
  obtain ⟨hc, hat⟩ := recolour h.cov ha (z := 2) (by omega)
  refine ⟨hc, fun j q => ?_, fun j q => ?_, fun j q => ?_, h.nodup, h.nolive.sublist List.filter_sublist, kinds_paint h.kinds (by omega), h.alone⟩
  · show q ∈ d.free j ↔ _
    rw [h.free]
    refine Iff.trans ?_ (hat 0 q j).symm
    rw [if_neg (by omega), if_neg (by omega)]
  · refine Iff.trans ?_ (hat 1 q j).symm
    rw [if_neg (by omega), if_pos rfl, ← h.live]
    show (q, j) ∈ d.live.filter (·.1 ≠ p) ↔ _
    simp only [List.mem_filter, decide_eq_true_eq]
    exact And.comm
  · refine Iff.trans ?_ (hat 2 q j).symm
    rw [if_pos rfl]
    constructor
    · intro e; injection e with e; injection e with e1 e2; exact .inl ⟨e1.symm, e2.symm⟩
    · rintro (⟨rfl, rfl⟩ | a)
      · rfl
      · exact absurd a h.nohole

theorem Inv.merge {d : D} {k p : Nat} (h : Inv d (some (p, k))) (hk : k < d.O) (hb : bud k p ∈ d.free k) : Inv (d.merge k p) (some (low k p, k + 1)) := by
  have ha := (h.hole k p).1 rfl
  have hbu := (h.free k _).1 hb
  obtain ⟨hc, hat⟩ := join_at h.cov ha hbu hk
  refine ⟨hc, fun j q => ?_, fun j q => ?_, fun j q => ?_, fun j => ?_, h.nolive, kinds_paint h.kinds (by omega), fun j q hj hq => ?_⟩
  · show q ∈ upd _ _ _ j ↔ _
    rw [mem_upd_filter, h.free]
    refine Iff.trans ?_ (hat 0 q j).symm
    constructor
    · rintro ⟨a, b⟩
      refine .inr ⟨a, fun e => ?_, fun e => ?_⟩
      · subst e; have := a.2.1; rw [ha.2.1] at this; cases this
      · subst e
        refine b ⟨?_, rfl⟩
        have := a.2.1.symm.trans hbu.2.1
        injection this
    · rintro (⟨e, _⟩ | ⟨a, b, c⟩)
      · cases e
      · exact ⟨a, fun e => c e.2⟩
  · show (q, j) ∈ d.live ↔ _
    rw [h.live]
    refine Iff.trans ?_ (hat 1 q j).symm
    constructor
    · intro a
      refine .inr ⟨a, fun e => ?_, fun e => ?_⟩
      · subst e; have := a.2.1; rw [ha.2.1] at this; cases this
      · subst e; have := a.2.1; rw [hbu.2.1] at this; cases this
    · rintro (⟨e, _⟩ | ⟨a, _⟩)
      · cases e
      · exact a
  · refine Iff.trans ?_ (hat 2 q j).symm
    constructor
    · intro e; injection e with e; injection e with e1 e2; exact .inl ⟨rfl, e1.symm, e2.symm⟩
    · rintro (⟨_, rfl, rfl⟩ | ⟨a, b, _⟩)
      · rfl
      · exact absurd (h.held a).1 b
  · show (upd _ _ _ j).Nodup
    unfold upd; split
    · exact nodup_filter (h.nodup k)
    · exact h.nodup j
  · have hq := (mem_upd_filter.1 hq).1
    exact fun hb => h.alone j q hj hq (mem_upd_filter.1 hb).1

theorem Inv.freed {d : D} {k p : Nat} (h : Inv d (some (p, k))) (hk : k = d.O ∨ bud k p ∉ d.free k) : Inv (d.freed k p) none := by
  have ha := (h.hole k p).1 rfl
  obtain ⟨hc, hat⟩ := recolour h.cov ha (z := 0) (by omega)
  have hpn : p ∉ d.free k := fun hm => by
    have := ((h.free k _).1 hm).2.1
    rw [ha.2.1] at this
    cases this
  refine ⟨hc, fun j q => ?_, fun j q => ?_, fun j q => ?_, fun j => ?_, h.nolive, kinds_paint h.kinds (by omega), fun j q hj hq => ?_⟩
  · show q ∈ upd _ _ _ j ↔ _
    rw [mem_upd_cons, h.free]
    refine Iff.trans ?_ (hat 0 q j).symm
    rw [if_pos rfl]
    constructor
    · rintro (⟨e1, e2⟩ | a)
      · exact .inl ⟨e2, e1⟩
      · exact .inr a
    · rintro (⟨e1, e2⟩ | a)
      · exact .inl ⟨e2, e1⟩
      · exact .inr a
  · show (q, j) ∈ d.live ↔ _
    rw [h.live]
    refine Iff.trans ?_ (hat 1 q j).symm
    rw [if_neg (by omega), if_neg (by omega)]
  · refine Iff.trans ?_ (hat 2 q j).symm
    rw [if_neg (by omega), if_pos rfl]
    constructor
    · intro e; cases e
    · rintro ⟨a, b⟩; exact absurd (h.held b).1 a
  · show (upd _ _ _ j).Nodup
    unfold upd; split
    · exact List.nodup_cons.2 ⟨hpn, h.nodup k⟩
    · exact h.nodup j
  · intro hb
    replace hq := mem_upd_cons.1 (show q ∈ upd d.free k (p :: d.free k) j from hq)
    replace hb := mem_upd_cons.1 (show bud j q ∈ upd d.free k (p :: d.free k) j from hb)
    have hb0 := bud_facts ha.2.2
    rcases hq with ⟨rfl, rfl⟩ | hq
    · rcases hb with ⟨_, e⟩ | hb
      · exact hb0.2.1 e
      · rcases hk with hk | hk
        · have hj : j < d.O := hj; omega
        · exact hk hb
    · rcases hb with ⟨rfl, e⟩ | hb
      · have := (bud_facts ((h.free j q).1 hq).2.2).2.2.2.1
        rw [e] at this
        rcases hk with hk | hk
        · have hj : j < d.O := hj; omega
        · rw [this] at hk; exact hk hq
      · exact h.alone j q hj hq hb

/-! ## Regions come and go -/

def D.come (d : D) : D := { d with pages := d.pages + 2 ^ d.O, live := d.live ++ [(d.pages, d.O)], c := paint d.c d.pages d.O (1, d.O) }

theorem Inv.come {d : D} (h : Inv d none) : Inv d.come none := by
  have h2 := pow_pos d.O
  have hw := h.cov.whole
  have hout : ∀ q, q < d.pages → q / 2 ^ d.O ≠ d.pages / 2 ^ d.O := fun q hq e => by
    have := (in_block hw).1 e; omega
  have hval : ∀ q, q < d.pages → paint d.c d.pages d.O (1, d.O) q = d.c q := fun q hq => by unfold paint; rw [if_neg (hout q hq)]
  have hnew : ∀ q, d.pages ≤ q → q < d.pages + 2 ^ d.O → paint d.c d.pages d.O (1, d.O) q = (1, d.O) := fun q h1 h3 => by unfold paint; rw [if_pos ((in_block hw).2 ⟨h1, h3⟩)]
  have hat : ∀ w q j, At (d.pages + 2 ^ d.O) (paint d.c d.pages d.O (1, d.O)) w q j ↔ (w = 1 ∧ q = d.pages ∧ j = d.O) ∨ At d.pages d.c w q j := by
    intro w q j
    constructor
    · rintro ⟨a1, a2, a3⟩
      by_cases hq : q < d.pages
      · rw [hval q hq] at a2; exact .inr ⟨hq, a2, a3⟩
      · rw [hnew q (by omega) a1] at a2
        injection a2 with e1 e2
        subst e1 e2
        exact .inl ⟨rfl, start_eq ((in_block hw).2 ⟨by omega, a1⟩) hw a3, rfl⟩
    · rintro (⟨rfl, rfl, rfl⟩ | ⟨a1, a2, a3⟩)
      · exact ⟨by omega, hnew _ (Nat.le_refl _) (by omega), hw⟩
      · exact ⟨by omega, by rw [hval q a1]; exact a2, a3⟩
  refine ⟨⟨?_, fun q hq => ?_, fun p q hp hq => ?_⟩, fun j q => ?_, fun j q => ?_, fun j q => ?_, h.nodup, ?_, fun q hq => ?_, h.alone⟩
  · show (d.pages + 2 ^ d.O) % 2 ^ d.O = 0
    rw [Nat.add_mod_right]; exact hw
  · have hq : q < d.pages + 2 ^ d.O := hq
    show (paint d.c d.pages d.O (1, d.O) q).2 ≤ d.O
    by_cases hl : q < d.pages
    · rw [hval q hl]; exact h.cov.le q hl
    · rw [hnew q (by omega) hq]; exact Nat.le_refl _
  · have hp : p < d.pages + 2 ^ d.O := hp
    have hq : q / 2 ^ (paint d.c d.pages d.O (1, d.O) p).2 = p / 2 ^ (paint d.c d.pages d.O (1, d.O) p).2 := hq
    show paint d.c d.pages d.O (1, d.O) q = paint d.c d.pages d.O (1, d.O) p
    by_cases hl : p < d.pages
    · rw [hval p hl] at hq
      have := block_lt hw (h.cov.le p hl) hl hq
      rw [hval p hl, hval q this]; exact h.cov.block p q hl hq
    · rw [hnew p (by omega) hp] at hq
      have := (in_block hw).1 (hq.trans ((in_block hw).2 ⟨by omega, hp⟩))
      rw [hnew p (by omega) hp, hnew q this.1 this.2]
  · show q ∈ d.free j ↔ _
    rw [h.free]
    refine Iff.trans ?_ (hat 0 q j).symm
    constructor
    · exact .inr
    · rintro (⟨e, _⟩ | a)
      · cases e
      · exact a
  · show (q, j) ∈ d.live ++ [(d.pages, d.O)] ↔ _
    refine Iff.trans ?_ (hat 1 q j).symm
    rw [← h.live]
    simp only [List.mem_append, List.mem_singleton, Prod.mk.injEq, true_and]
    exact Or.comm
  · refine Iff.trans ?_ (hat 2 q j).symm
    constructor
    · intro e; cases e
    · rintro (⟨e, _⟩ | a)
      · cases e
      · exact absurd a h.nohole
  · show (d.live ++ [(d.pages, d.O)]).Nodup
    rw [List.nodup_append]
    refine ⟨h.nolive, by simp, fun a ha b hb => ?_⟩
    simp only [List.mem_singleton] at hb
    subst hb
    intro e; subst e
    have := ((h.live _ _).1 ha).1
    omega
  · have hq : q < d.pages + 2 ^ d.O := hq
    show (paint d.c d.pages d.O (1, d.O) q).1 ≤ 2
    by_cases hl : q < d.pages
    · rw [hval q hl]; exact h.kinds q hl
    · rw [hnew q (by omega) hq]; show 1 ≤ 2; omega

def D.top (d : D) : Nat := d.pages - 2 ^ d.O

/-- The topmost region, one live block, is taken off. -/
def D.go (d : D) : D := { d with pages := d.top, live := d.live.filter (·.1 ≠ d.top) }

theorem Inv.go {d : D} (h : Inv d none) (hl : (d.top, d.O) ∈ d.live) : Inv d.go none := by
  have h2 := pow_pos d.O
  have hw := h.cov.whole
  obtain ⟨t1, t2, t3⟩ := (h.live _ _).1 hl
  have ht : d.top + 2 ^ d.O = d.pages := by
    unfold D.top at *
    have : 2 ^ d.O ≤ d.pages := Nat.le_of_dvd (by omega) (Nat.dvd_of_mod_eq_zero hw)
    omega
  have hin : ∀ q, d.top ≤ q → q < d.pages → d.c q = (1, d.O) := fun q a b => by
    have := h.cov.block d.top q t1 (by rw [t2]; exact (in_block t3).2 ⟨a, by omega⟩)
    rw [this, t2]
  have hat : ∀ w q j, At d.top d.c w q j ↔ At d.pages d.c w q j ∧ q ≠ d.top := by
    intro w q j
    constructor
    · rintro ⟨a1, a2, a3⟩; exact ⟨⟨by omega, a2, a3⟩, by omega⟩
    · rintro ⟨⟨a1, a2, a3⟩, a4⟩
      refine ⟨?_, a2, a3⟩
      refine Classical.byContradiction fun hn => a4 ?_
      have := hin q (by omega) a1
      rw [a2] at this
      injection this with e1 e2
      subst e1 e2
      exact start_eq ((in_block t3).2 ⟨by omega, by omega⟩) t3 a3
  have hne : ∀ q j, q ∈ d.free j → q ≠ d.top := fun q j hq e => by
    subst e
    have := ((h.free _ _).1 hq).2.1
    rw [t2] at this; cases this
  refine ⟨⟨t3, fun q hq => h.cov.le q (by have hq : q < d.top := hq; omega), fun p q hp hq => h.cov.block p q (by have hp : p < d.top := hp; omega) hq⟩, fun j q => ?_, fun j q => ?_, fun j q => ?_, h.nodup, h.nolive.sublist List.filter_sublist, fun q hq => h.kinds q (by have hq : q < d.top := hq; omega), h.alone⟩
  · show q ∈ d.free j ↔ _
    refine Iff.trans ?_ (hat 0 q j).symm
    rw [← h.free]
    exact ⟨fun a => ⟨a, hne q j a⟩, fun a => a.1⟩
  · refine Iff.trans ?_ (hat 1 q j).symm
    rw [← h.live]
    show (q, j) ∈ d.live.filter (·.1 ≠ d.top) ↔ _
    simp only [List.mem_filter, decide_eq_true_eq]
  · refine Iff.trans ?_ (hat 2 q j).symm
    constructor
    · intro e; cases e
    · rintro ⟨a, _⟩; exact absurd a h.nohole

/-! ## The whole deeds -/

/-- Upper halves are let go, so many times, down to an order. -/
def D.splits (d : D) (p to : Nat) : Nat → D
  | 0 => d
  | n + 1 => (d.split (to + n) p).splits p to n

def D.cut (d : D) (p fr to : Nat) : D := (d.splits p to (fr - to)).liven to p

theorem Inv.splits {p to : Nat} : ∀ (n : Nat) {d : D}, Inv d (some (p, to + n)) → Inv (d.splits p to n) (some (p, to))
  | 0, _, h => h
  | n + 1, _, h => Inv.splits n (Inv.split h)

theorem Inv.cut {d : D} {p fr to : Nat} (h : Inv d (some (p, fr))) (hle : to ≤ fr) : Inv (d.cut p fr to) none :=
  Inv.liven (Inv.splits _ (by rw [show to + (fr - to) = fr by omega]; exact h))

/-- The first order, from one on, of which there is a free block. -/
def D.first (d : D) (j : Nat) : Nat → Option Nat
  | 0 => none
  | n + 1 => if d.free j ≠ [] then some j else d.first (j + 1) n

def D.take (d : D) (k : Nat) : D × Option Nat :=
  match d.first k (d.O + 1 - k) with
  | none => (d, none)
  | some j => match d.free j with
    | [] => (d, none)
    | p :: _ => ((d.pop j p).cut p j k, some p)

theorem first_some {d : D} : ∀ {n j i : Nat}, d.first j n = some i → j ≤ i ∧ i < j + n ∧ d.free i ≠ [] ∧ ∀ x, j ≤ x → x < i → d.free x = []
  | 0, _, _, h => by cases h
  | n + 1, j, i, h => by
    unfold D.first at h
    split at h
    · rename_i hf
      injection h with h; subst h
      exact ⟨Nat.le_refl _, by omega, hf, fun x a b => by omega⟩
    · rename_i hf
      obtain ⟨a, b, c, d'⟩ := first_some h
      refine ⟨by omega, by omega, c, fun x h1 h2 => ?_⟩
      by_cases hx : x = j
      · subst hx; exact Classical.not_not.1 hf
      · exact d' x (by omega) h2

theorem first_none {d : D} : ∀ {n j : Nat}, d.first j n = none → ∀ x, j ≤ x → x < j + n → d.free x = []
  | 0, _, _, x, h1, h2 => by omega
  | n + 1, j, h, x, h1, h2 => by
    unfold D.first at h
    split at h
    · cases h
    · rename_i hf
      by_cases hx : x = j
      · subst hx; exact Classical.not_not.1 hf
      · exact first_none h x (by omega) (by omega)

theorem Inv.take {d : D} (h : Inv d none) (k : Nat) : Inv (d.take k).1 none := by
  unfold D.take
  split
  · exact h
  · rename_i j hj
    obtain ⟨a, _, _, _⟩ := first_some hj
    split
    · exact h
    · rename_i p t hp
      exact Inv.cut (h.pop (by rw [hp]; exact List.mem_cons_self)) a

/-- The block in the hand is let go, with what of its other halves is free. -/
def D.up (d : D) (k p : Nat) : Nat → D
  | 0 => d.freed k p
  | n + 1 => if bud k p ∈ d.free k then (d.merge k p).up (k + 1) (low k p) n else d.freed k p

theorem Inv.up : ∀ (n : Nat) {d : D} {k p : Nat}, Inv d (some (p, k)) → k + n = d.O → Inv (d.up k p n) none
  | 0, d, k, p, h, hn => Inv.freed h (.inl (by omega))
  | n + 1, d, k, p, h, hn => by
    unfold D.up
    split
    · rename_i hb
      exact Inv.up n (Inv.merge h (by omega) hb) (by show k + 1 + n = d.O; omega)
    · rename_i hb
      exact Inv.freed h (.inr hb)

def D.give (d : D) (k p : Nat) : D := (d.unlive k p).up k p (d.O - k)

theorem Inv.give {d : D} (h : Inv d none) {k p : Nat} (hp : (p, k) ∈ d.live) : Inv (d.give k p) none := by
  have hk := h.cov.le p ((h.live k p).1 hp).1
  rw [((h.live k p).1 hp).2.1] at hk
  exact Inv.up _ (h.unlive hp) (by show k + (d.O - k) = d.O; have hk : k ≤ d.O := hk; omega)

def D.shrink (d : D) (p fr to : Nat) : D := (d.unlive fr p).cut p fr to

theorem Inv.shrink {d : D} (h : Inv d none) {k p to : Nat} (hp : (p, k) ∈ d.live) (hle : to ≤ k) : Inv (d.shrink p k to) none := (h.unlive hp).cut hle

def D.pull (d : D) : D := (d.pop d.O d.top).liven d.O d.top

theorem Inv.pull {d : D} (h : Inv d none) (hp : d.top ∈ d.free d.O) : Inv d.pull none := (h.pop hp).liven

def D.new (O : Nat) : D := ⟨O, 0, fun _ => [], [], fun _ => (1, 0)⟩

theorem Inv.new (O : Nat) : Inv (D.new O) none := by
  have hn : ∀ w p k, ¬ At 0 (fun _ => ((1 : Nat), (0 : Nat))) w p k := fun w p k h => by have := h.1; omega
  refine ⟨⟨Nat.zero_mod _, fun p hp => by have hp : p < 0 := hp; omega, fun p q hp => by have hp : p < 0 := hp; omega⟩, fun j q => ?_, fun j q => ?_, fun j q => ?_, fun _ => List.nodup_nil, List.nodup_nil, fun p hp => by have hp : p < 0 := hp; omega, fun k p _ hq => ?_⟩
  · exact ⟨fun h => absurd (show q ∈ ([] : List Nat) from h) (by simp), fun h => absurd h (hn _ _ _)⟩
  · exact ⟨fun h => absurd (show (q, j) ∈ ([] : List (Nat × Nat)) from h) (by simp), fun h => absurd h (hn _ _ _)⟩
  · exact ⟨fun h => (by cases h), fun h => absurd h (hn _ _ _)⟩
  · exact absurd (show p ∈ ([] : List Nat) from hq) (by simp)

end Bd
end Go.Proofs.Ytdmfnlcbfmahhaa
