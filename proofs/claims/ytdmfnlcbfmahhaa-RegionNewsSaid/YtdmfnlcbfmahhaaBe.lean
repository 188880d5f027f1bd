/- More plain facts of a buddy: what is live behind a deed; a stretch that meets no live block. -/
import Derived.Test.YtdmfnlcbfmahhaaBd
namespace Go.Proofs.Ytdmfnlcbfmahhaa
namespace Bd

theorem splits_same {p to : Nat} : ∀ (n : Nat) {d : D}, (d.splits p to n).live = d.live ∧ (d.splits p to n).pages = d.pages ∧ (d.splits p to n).O = d.O
  | 0, _ => ⟨rfl, rfl, rfl⟩
  | n + 1, d => by
    unfold D.splits
    exact splits_same n

theorem cut_same {d : D} {p fr to : Nat} : (d.cut p fr to).live = d.live ++ [(p, to)] ∧ (d.cut p fr to).pages = d.pages ∧ (d.cut p fr to).O = d.O := by
  obtain ⟨a, b, c⟩ := splits_same (p := p) (to := to) (fr - to) (d := d)
  exact ⟨by show (d.splits p to (fr - to)).live ++ _ = _; rw [a], b, c⟩

theorem up_same : ∀ (n : Nat) {d : D} {k p : Nat}, (d.up k p n).live = d.live ∧ (d.up k p n).pages = d.pages ∧ (d.up k p n).O = d.O
  | 0, _, _, _ => ⟨rfl, rfl, rfl⟩
  | n + 1, d, k, p => by
    unfold D.up
    split
    · exact up_same n (d := d.merge k p)
    · exact ⟨rfl, rfl, rfl⟩

theorem give_same {d : D} {k p : Nat} : (d.give k p).live = d.live.filter (·.1 ≠ p) ∧ (d.give k p).pages = d.pages ∧ (d.give k p).O = d.O := up_same (d.O - k) (d := d.unlive k p)

theorem shrink_same {d : D} {p fr to : Nat} : (d.shrink p fr to).live = d.live.filter (·.1 ≠ p) ++ [(p, to)] ∧ (d.shrink p fr to).pages = d.pages ∧ (d.shrink p fr to).O = d.O := cut_same (d := d.unlive fr p)

theorem take_same {d : D} {j p k : Nat} : ((d.pop j p).cut p j k).live = d.live ++ [(p, k)] ∧ ((d.pop j p).cut p j k).pages = d.pages ∧ ((d.pop j p).cut p j k).O = d.O := cut_same (d := d.pop j p)

theorem pull_same {d : D} : d.pull.live = d.live ++ [(d.top, d.O)] ∧ d.pull.pages = d.pages ∧ d.pull.O = d.O := ⟨rfl, rfl, rfl⟩

variable {d : D} {h : Option (Nat × Nat)}

theorem at_color (I : Inv d h) {z p k : Nat} (a : At d.pages d.c z p k) {q : Nat} (h1 : p ≤ q) (h2 : q < p + 2 ^ k) : d.c q = (z, k) ∧ q < d.pages := by
  obtain ⟨a1, a2, a3⟩ := a
  have hb : q / 2 ^ k = p / 2 ^ k := (in_block a3).2 ⟨h1, h2⟩
  have hk : k ≤ d.O := by have := I.cov.le p a1; rw [a2] at this; exact this
  exact ⟨by rw [← a2]; exact I.cov.block p q a1 (by rw [a2]; exact hb), block_lt I.cov.whole hk a1 hb⟩

theorem live_color (I : Inv d h) {p k q : Nat} (a : (p, k) ∈ d.live) (h1 : p ≤ q) (h2 : q < p + 2 ^ k) : d.c q = (1, k) ∧ q < d.pages := at_color I ((I.live k p).1 a) h1 h2

theorem free_color (I : Inv d h) {p k q : Nat} (a : p ∈ d.free k) (h1 : p ≤ q) (h2 : q < p + 2 ^ k) : d.c q = (0, k) ∧ q < d.pages := at_color I ((I.free k p).1 a) h1 h2

/-- The block that a page lies in. -/
theorem start (I : Inv d h) {q : Nat} (hq : q < d.pages) : At d.pages d.c (d.c q).1 (q / 2 ^ (d.c q).2 * 2 ^ (d.c q).2) (d.c q).2 ∧ q / 2 ^ (d.c q).2 * 2 ^ (d.c q).2 ≤ q ∧ q < q / 2 ^ (d.c q).2 * 2 ^ (d.c q).2 + 2 ^ (d.c q).2 := by
  generalize hi : (d.c q).2 = i
  have hp := pow_pos i
  have h1 : q / 2 ^ i * 2 ^ i ≤ q := Nat.div_mul_le_self _ _
  have h2 : q < q / 2 ^ i * 2 ^ i + 2 ^ i := by
    have := Nat.div_add_mod q (2 ^ i)
    have := Nat.mod_lt q hp
    rw [Nat.mul_comm]; omega
  have h3 : q / 2 ^ i * 2 ^ i % 2 ^ i = 0 := Nat.mul_mod_left _ _
  have h4 : d.c (q / 2 ^ i * 2 ^ i) = d.c q := I.cov.block q _ hq (by rw [hi, Nat.mul_div_cancel _ hp])
  exact ⟨⟨by omega, by rw [h4, ← hi], h3⟩, h1, h2⟩

def meets (l : List (Nat × Nat)) (p k : Nat) : Prop := ∃ v ∈ l, v.1 < p + 2 ^ k ∧ p < v.1 + 2 ^ v.2

theorem free_no_meet (I : Inv d h) {p j k : Nat} (hp : p ∈ d.free j) (hk : k ≤ j) : ¬ meets d.live p k := by
  rintro ⟨⟨x, i⟩, hx, h1, h2⟩
  have h1 : x < p + 2 ^ k := h1
  have h2 : p < x + 2 ^ i := h2
  have hpw : 2 ^ k ≤ 2 ^ j := Nat.pow_le_pow_right (by omega) hk
  by_cases hxp : x ≤ p
  · have a := (live_color I hx hxp h2).1
    have b := (free_color I hp (Nat.le_refl _) (by have := pow_pos j; omega)).1
    rw [a] at b; exact absurd (congrArg Prod.fst b) (by simp)
  · have a := (live_color I hx (Nat.le_refl _) (by have := pow_pos i; omega)).1
    have b := (free_color I hp (q := x) (by omega) (by omega)).1
    rw [a] at b; exact absurd (congrArg Prod.fst b) (by simp)

theorem all_free (I : Inv d none) {p k : Nat} (hk : k ≤ d.O) (hp : p < d.pages) (hm : p % 2 ^ k = 0) (hno : ¬ meets d.live p k) {q : Nat} (h1 : p ≤ q) (h2 : q < p + 2 ^ k) : (d.c q).1 = 0 ∧ q < d.pages := by
  have hq : q < d.pages := block_lt I.cov.whole hk hp ((in_block hm).2 ⟨h1, h2⟩)
  obtain ⟨a, b, c⟩ := start I hq
  have h3 := I.kinds q hq
  refine ⟨?_, hq⟩
  rcases Nat.lt_or_ge (d.c q).1 1 with h | h
  · omega
  · rcases Nat.lt_or_ge (d.c q).1 2 with h' | h'
    · rw [show (d.c q).1 = 1 by omega] at a
      exact absurd ⟨_, (I.live _ _).2 a, Nat.lt_of_le_of_lt b h2, Nat.lt_of_le_of_lt h1 c⟩ hno
    · rw [show (d.c q).1 = 2 by omega] at a
      exact absurd a I.nohole

theorem whole_free (I : Inv d none) : ∀ (k p : Nat), k ≤ d.O → p % 2 ^ k = 0 → p < d.pages → (∀ q, p ≤ q → q < p + 2 ^ k → (d.c q).1 = 0) → k ≤ (d.c p).2
  | 0, _, _, _, _, _ => Nat.zero_le _
  | k + 1, p, hk, hm, hp, hf => by
    have hpk := pow_pos k
    have hpk1 : 2 ^ (k + 1) = 2 ^ k + 2 ^ k := by rw [Nat.pow_succ]; omega
    obtain ⟨m1, m2, m3, m4, _⟩ := half_facts hm
    have hp2 : p + 2 ^ k < d.pages := block_lt I.cov.whole hk hp ((in_block hm).2 ⟨by omega, by omega⟩)
    have a := whole_free I k p (by omega) m1 hp (fun q h1 h2 => hf q h1 (by omega))
    have b := whole_free I k (p + 2 ^ k) (by omega) m2 hp2 (fun q h1 h2 => hf q (by omega) (by omega))
    refine Nat.lt_of_le_of_ne a fun he => ?_
    have z0 := hf p (Nat.le_refl _) (by omega)
    have z1 := hf (p + 2 ^ k) (by omega) (by omega)
    have ap : At d.pages d.c 0 p k := ⟨hp, Prod.ext z0 he.symm, m1⟩
    by_cases hb : (d.c (p + 2 ^ k)).2 = k
    · have ab : At d.pages d.c 0 (p + 2 ^ k) k := ⟨hp2, Prod.ext z1 hb, m2⟩
      have hbud : bud k p = p + 2 ^ k := by
        unfold bud
        rw [if_pos]
        have := Nat.mod_mul_right_div_self p (2 ^ k) 2
        rw [← Nat.pow_succ] at this
        rw [← this, hm, Nat.zero_div]
      exact I.alone k p (by omega) ((I.free k p).2 ap) (by rw [hbud]; exact (I.free k _).2 ab)
    · have hmono : p / 2 ^ (d.c (p + 2 ^ k)).2 = (p + 2 ^ k) / 2 ^ (d.c (p + 2 ^ k)).2 := div_mono (j := k + 1) m4.symm (by omega)
      have := I.cov.block (p + 2 ^ k) p hp2 hmono
      rw [this] at he
      omega

theorem free_of_no_meet (I : Inv d none) {p k : Nat} (hk : k ≤ d.O) (hp : p < d.pages) (hm : p % 2 ^ k = 0) (hno : ¬ meets d.live p k) : ∃ j s, k ≤ j ∧ j ≤ d.O ∧ s ∈ d.free j ∧ s ≤ p ∧ p < s + 2 ^ j := by
  have hf := fun q h1 h2 => all_free I hk hp hm hno (q := q) h1 h2
  have hj := whole_free I k p hk hm hp (fun q h1 h2 => (hf q h1 h2).1)
  obtain ⟨a, b, c⟩ := start I hp
  rw [(hf p (Nat.le_refl _) (by have := pow_pos k; omega)).1] at a
  exact ⟨_, _, hj, I.cov.le p hp, (I.free _ _).2 a, b, c⟩

theorem stuck_iff (I : Inv d none) {k : Nat} (hk : k ≤ d.O) : d.first k (d.O + 1 - k) = none ↔ ∀ p, p < d.pages → p % 2 ^ k = 0 → meets d.live p k := by
  constructor
  · intro hf p hp hm
    refine Classical.byContradiction fun hno => ?_
    obtain ⟨j, s, h1, h2, h3, _⟩ := free_of_no_meet I hk hp hm hno
    rw [first_none hf j h1 (by omega)] at h3
    cases h3
  · intro hall
    cases hf : d.first k (d.O + 1 - k) with
    | none => rfl
    | some j =>
      obtain ⟨h1, h2, h3, _⟩ := first_some hf
      obtain ⟨p, t, hp⟩ : ∃ p t, d.free j = p :: t := by
        cases hx : d.free j with
        | nil => exact absurd hx h3
        | cons p t => exact ⟨p, t, rfl⟩
      have hmem : p ∈ d.free j := by rw [hp]; exact List.mem_cons_self
      obtain ⟨a1, a2, a3⟩ := (I.free j p).1 hmem
      exact absurd (hall p a1 (mod_mono a3 h1)) (free_no_meet I hmem h1)

theorem top_free_iff (I : Inv d none) (h0 : 0 < d.pages) : d.top ∈ d.free d.O ↔ ¬ meets d.live d.top d.O := by
  have hp := pow_pos d.O
  have hw := I.cov.whole
  have hle : 2 ^ d.O ≤ d.pages := Nat.le_of_dvd h0 (Nat.dvd_of_mod_eq_zero hw)
  have hm : d.top % 2 ^ d.O = 0 := by
    unfold D.top
    rw [← Nat.mod_eq_sub_mod hle]; exact hw
  have htop : d.top + 2 ^ d.O = d.pages := by unfold D.top; omega
  constructor
  · intro hf; exact free_no_meet I hf (Nat.le_refl _)
  · intro hno
    obtain ⟨j, s, h1, h2, h3, h4, h5⟩ := free_of_no_meet I (Nat.le_refl _) (by omega) hm hno
    obtain rfl : j = d.O := by omega
    obtain ⟨a1, a2, a3⟩ := (I.free _ _).1 h3
    have : d.top = s := start_eq ((in_block a3).2 ⟨h4, h5⟩) a3 hm
    rw [this]; exact h3

/-- No two live blocks begin at one page. -/
theorem live_fst (I : Inv d h) {p k k' : Nat} (h1 : (p, k) ∈ d.live) (h2 : (p, k') ∈ d.live) : k = k' := by
  have a := ((I.live k p).1 h1).2.1
  have b := ((I.live k' p).1 h2).2.1
  rw [a] at b; exact congrArg Prod.snd b

theorem fst_nodup (I : Inv d h) : (d.live.map (·.1)).Nodup := by
  have hn := I.nolive
  have hl : ∀ p k k', (p, k) ∈ d.live → (p, k') ∈ d.live → k = k' := fun p k k' => live_fst I
  revert hn hl
  generalize d.live = l
  intro hn hl
  induction l with
  | nil => exact List.nodup_nil
  | cons x t ih =>
    rw [List.nodup_cons] at hn
    rw [List.map_cons, List.nodup_cons]
    refine ⟨fun hx => ?_, ih hn.2 fun p k k' h1 h2 => hl p k k' (List.mem_cons_of_mem _ h1) (List.mem_cons_of_mem _ h2)⟩
    obtain ⟨y, hy, e⟩ := List.mem_map.1 hx
    have := hl x.1 y.2 x.2 (by rw [← e]; exact List.mem_cons_of_mem _ hy) List.mem_cons_self
    exact hn.1 (by rw [show x = y from Prod.ext e.symm this.symm]; exact hy)

/-- Two live blocks that share a page are one. -/
theorem live_disj (I : Inv d h) {p k p' k' q : Nat} (h1 : (p, k) ∈ d.live) (h2 : (p', k') ∈ d.live) (a1 : p ≤ q) (a2 : q < p + 2 ^ k) (b1 : p' ≤ q) (b2 : q < p' + 2 ^ k') : p' = p ∧ k' = k := by
  have e1 := (live_color I h1 a1 a2).1
  have e2 := (live_color I h2 b1 b2).1
  rw [e1] at e2
  have hk : k = k' := congrArg Prod.snd e2
  subst hk
  have m1 := ((I.live _ _).1 h1).2.2
  have m2 := ((I.live _ _).1 h2).2.2
  refine ⟨start_eq ?_ m1 m2, rfl⟩
  rw [← (in_block m1).2 ⟨a1, a2⟩, ← (in_block m2).2 ⟨b1, b2⟩]

theorem filter_erase {A : Type} (f : A → Nat × Nat) : ∀ (L : List A) (i : Nat) (hi : i < L.length), ((L.map f).map (·.1)).Nodup → (L.eraseIdx i).map f = (L.map f).filter (·.1 ≠ (f L[i]).1)
  | x :: t, 0, _, hn => by
    rw [List.map_cons, List.map_cons, List.nodup_cons] at hn
    show t.map f = ((x :: t).map f).filter (·.1 ≠ (f x).1)
    rw [List.map_cons, List.filter_cons_of_neg (by simp), List.filter_eq_self.2]
    intro y hy
    simp only [decide_not, Bool.not_eq_eq_eq_not, Bool.not_true, decide_eq_false_iff_not]
    intro e
    exact hn.1 (List.mem_map.2 ⟨y, hy, e⟩)
  | x :: t, i + 1, hi, hn => by
    rw [List.map_cons, List.map_cons, List.nodup_cons] at hn
    have hi' : i < t.length := by simpa using hi
    show (x :: t.eraseIdx i).map f = ((x :: t).map f).filter (·.1 ≠ (f t[i]).1)
    rw [List.map_cons, List.map_cons, List.filter_cons_of_pos, filter_erase f t i hi' hn.2]
    simp only [decide_not, Bool.not_eq_eq_eq_not, Bool.not_true, decide_eq_false_iff_not]
    intro e
    exact hn.1 (List.mem_map.2 ⟨f t[i], List.mem_map.2 ⟨t[i], List.getElem_mem _, rfl⟩, e.symm⟩)

end Bd
end Go.Proofs.Ytdmfnlcbfmahhaa
