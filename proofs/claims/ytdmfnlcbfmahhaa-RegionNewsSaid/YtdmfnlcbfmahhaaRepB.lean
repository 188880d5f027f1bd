/- The buddy's state stands for blocks of pages. -/
import Derived.Test.YtdmfnlcbfmahhaaRepA
namespace Go.Proofs.Ytdmfnlcbfmahhaa
open Go Hl Bd

/-- What the map says of a page of a block. -/
def pgOf (v : Nat × Nat) (p : Nat) : Pg := plainPg ((2 * v.1 + (if p % 2 ^ v.2 = 0 then 0 else 1) : Nat) : Int) (v.2 : Int)

def Bits (f : Nat → Nat → Bool) (O n : Nat) (free : Nat → List Nat) : Prop :=
  ∀ k i, k < O → i < n / 2 ^ (k + 1) → f k i = (decide (i * 2 ^ (k + 1) ∈ free k) != decide (i * 2 ^ (k + 1) + 2 ^ k ∈ free k))

structure Rep (S : Nat → Prop) (B : BS) (d : D) (h : Option (Nat × Nat)) : Prop where
  ok : B.Ok
  sok : B.σ.Ok
  mok : B.μ.Ok
  inv : Inv d h
  ord : d.O = B.σ.order
  n : B.μ.n = d.pages
  mem : d.pages ≤ B.σ.n * 2 ^ B.σ.order
  heads : ∀ k, k ≤ d.O → B.heads k = hdA B.σ 0 (d.free k)
  links : ∀ k, k ≤ d.O → seg B.σ 0 (d.free k) 0
  pages : ∀ p, p < d.pages → (d.c p).1 ≠ 2 → ¬ S p → B.μ.pages p = pgOf (d.c p) p
  slab : ∀ p, S p → At d.pages d.c 1 p 0 ∧ Pg.kind (B.μ.pages p) = 4
  bits : Bits B.μ.pairs d.O d.pages d.free

theorem sub_mod {p k x i : Nat} (hx : x % 2 ^ k = 0) : x / 2 ^ (k + 1) = i ↔ x = i * 2 ^ (k + 1) ∨ x = i * 2 ^ (k + 1) + 2 ^ k := by
  have h2 := Bd.pow_pos k
  obtain ⟨m, rfl⟩ : ∃ m, x = m * 2 ^ k := ⟨x / 2 ^ k, by have := Nat.div_add_mod x (2 ^ k); rw [Nat.mul_comm]; omega⟩
  rw [div_succ, Nat.mul_div_cancel _ h2, Nat.pow_succ, Nat.mul_comm (2 ^ k) 2, ← Nat.mul_assoc]
  constructor
  · intro h
    rcases Nat.mod_two_eq_zero_or_one m with h1 | h1
    · left; congr 1; omega
    · right; rw [← Nat.succ_mul]; congr 1; omega
  · rintro (h | h)
    · have := Nat.eq_of_mul_eq_mul_right h2 h; omega
    · rw [← Nat.succ_mul] at h
      have := Nat.eq_of_mul_eq_mul_right h2 h; omega

/-- One page more, or less, on a list of an order: its pair's bit turns. -/
theorem Bits.toggle {f : Nat → Nat → Bool} {O n : Nat} {free free' : Nat → List Nat} (h : Bits f O n free) {k x : Nat} (hx : x % 2 ^ k = 0) (ho : ∀ j, j ≠ k → free' j = free j)
    (hq : ∀ q, q ≠ x → (q ∈ free' k ↔ q ∈ free k)) (hxx : x ∈ free' k ↔ ¬ x ∈ free k) : Bits (fun j => if j = k then flipped (f k) (x / 2 ^ (k + 1)) else f j) O n free' := by
  intro j i hj hi
  by_cases hjk : j = k
  · subst hjk
    have h2 := Bd.pow_pos j
    have hb := h j i hj hi
    simp only [if_true, flipped]
    by_cases hix : x / 2 ^ (j + 1) = i
    · rw [if_pos hix.symm, hix, hb]
      rcases (sub_mod (p := 0) hx).1 hix with e | e
      · have hne : i * 2 ^ (j + 1) + 2 ^ j ≠ x := by omega
        rw [← e]
        have h1 := hq _ hne
        rw [← e] at h1
        by_cases a : x ∈ free j <;> by_cases b : x + 2 ^ j ∈ free j <;> simp [hxx, h1, a, b]
      · have hne : i * 2 ^ (j + 1) ≠ x := by omega
        have h1 := hq _ hne
        rw [← e]
        by_cases a : x ∈ free j <;> by_cases b : i * 2 ^ (j + 1) ∈ free j <;> simp [hxx, h1, a, b]
    · rw [if_neg (fun e => hix e.symm), hb]
      have n1 : i * 2 ^ (j + 1) ≠ x := fun e => hix ((sub_mod (p := 0) hx).2 (.inl e.symm))
      have n2 : i * 2 ^ (j + 1) + 2 ^ j ≠ x := fun e => hix ((sub_mod (p := 0) hx).2 (.inr e.symm))
      have h1 := hq _ n1
      have h3 := hq _ n2
      simp only [h1, h3]
  · simp only [if_neg hjk]
    rw [ho j hjk]
    exact h j i hj hi

theorem Bits.same {f : Nat → Nat → Bool} {O n : Nat} {free free' : Nat → List Nat} (h : Bits f O n free) (ho : ∀ j, j < O → free' j = free j) : Bits f O n free' := by
  intro j i hj hi
  rw [ho j hj]; exact h j i hj hi

/-! ## Pages and their places -/

section
variable {S : Nat → Prop} {B : BS} {d : D} {h : Option (Nat × Nat)}

theorem Rep.whole (R : Rep S B d h) : d.pages % 2 ^ d.O = 0 := R.inv.cov.whole

theorem Rep.has (R : Rep S B d h) {p : Nat} (hp : p < d.pages) {n : Nat} (hn : n ≤ 4096) : B.σ.has (B.σ.ad p) n := by
  have := R.mem
  have h2 : 4096 * (B.σ.n * 2 ^ B.σ.order) = B.σ.size * B.σ.n := by unfold Sp.size; rw [Nat.mul_comm B.σ.n, Nat.mul_assoc]
  have h3 : 4096 * d.pages ≤ 4096 * (B.σ.n * 2 ^ B.σ.order) := Nat.mul_le_mul_left _ this
  right
  unfold Sp.ad
  omega

theorem Rep.lt (R : Rep S B d h) {p : Nat} (hp : p < d.pages) : B.σ.ad p < 2 ^ 64 := by
  have := R.has hp (n := 16) (by omega)
  have he := R.sok.end_le
  unfold Sp.has at this
  rcases this with h | h
  · omega
  · have : (2 : Nat) ^ 64 = 18446744073709551616 := by decide
    omega

theorem Rep.pgs (R : Rep S B d h) {l : List Nat} (hl : ∀ p ∈ l, p < d.pages) : Pgs B.σ l :=
  ⟨fun p hp => R.has (hl p hp) (by omega), R.sok.base, fun p hp => R.lt (hl p hp)⟩

theorem Rep.free_lt (R : Rep S B d h) {k p : Nat} (hp : p ∈ d.free k) : p < d.pages := ((R.inv.free k p).1 hp).1

theorem Rep.le_O (R : Rep S B d h) {z k p : Nat} (hp : At d.pages d.c z p k) : k ≤ d.O := by
  have := R.inv.cov.le p hp.1
  rw [hp.2.1] at this; exact this

theorem Rep.free_O (R : Rep S B d h) {k p : Nat} (hp : p ∈ d.free k) : k ≤ d.O := R.le_O ((R.inv.free k p).1 hp)

/-- A block lies within the pages. -/
theorem Rep.block_le (R : Rep S B d h) {z k p : Nat} (hp : At d.pages d.c z p k) : p + 2 ^ k ≤ d.pages := by
  have h2 := Bd.pow_pos k
  have := block_lt (q := p + 2 ^ k - 1) R.whole (R.le_O hp) hp.1 ((in_block hp.2.2).2 ⟨by omega, by omega⟩)
  omega

theorem Rep.base4096 (R : Rep S B d h) : B.σ.base % 4096 = 0 := by
  have := R.sok.align
  have hd : 4096 ∣ B.σ.size := ⟨2 ^ B.σ.order, rfl⟩
  exact Nat.mod_eq_zero_of_dvd (Nat.dvd_trans hd (Nat.dvd_of_mod_eq_zero this))

theorem Rep.pageOf (R : Rep S B d h) {p : Nat} (hp : p < d.pages) : B.pageOf (B.σ.ad p) = some p := by
  have h4 := R.base4096
  have hn := R.n
  have e1 : (B.σ.ad p - B.σ.base) / 4096 = p := by unfold Sp.ad; omega
  unfold BS.pageOf
  rw [e1, if_pos ⟨by unfold Sp.ad; omega, by unfold Sp.ad; omega, by omega⟩]

theorem Rep.pageOf_ad (R : Rep S B d h) {a p : Nat} (hp : B.pageOf a = some p) : a = B.σ.ad p ∧ p < d.pages := by
  have h4 := R.base4096
  have hn := R.n
  unfold BS.pageOf at hp
  split at hp
  · rename_i hc
    injection hp with hp
    unfold Sp.ad
    omega
  · cases hp

/-! ## Lists -/

theorem filter_split {a b : List Nat} {p : Nat} (hn : (a ++ p :: b).Nodup) : (a ++ p :: b).filter (· ≠ p) = a ++ b := by
  obtain ⟨_, nb, nab⟩ := List.nodup_append.1 hn
  have npb := (List.nodup_cons.1 nb).1
  rw [List.filter_append, List.filter_cons, if_neg (by simp)]
  congr 1
  · exact List.filter_eq_self.2 fun x hx => by simp; exact fun e => nab x hx p List.mem_cons_self e
  · exact List.filter_eq_self.2 fun x hx => by simp; exact fun e => npb (e ▸ hx)

theorem remove_ok {σ : Sp} (ok : σ.Ok) {h a : Nat} : (σ.remove h a).1.Ok := by
  unfold Sp.remove
  split
  · exact ok
  · split
    · exact ok
    · show (if _ then _ else _ : Sp).Ok
      have : (if σ.word (a + 8) = 0 then σ else σ.set (σ.word (a + 8)) (σ.word a)).Ok := by
        split
        · exact ok
        · exact set_ok ok
      split
      · exact set_ok this
      · exact this

theorem push_ok {σ : Sp} (ok : σ.Ok) {h a : Nat} : (σ.push h a).1.Ok := by
  unfold Sp.push
  split
  · exact ok
  · split
    · exact ok
    · show (if _ then _ else _ : Sp).Ok
      split
      · exact set_ok (set_ok (set_ok ok))
      · exact set_ok (set_ok ok)

/-- What stands of a list's page on each list. -/
theorem Inv.disj (I : Inv d h) {j k q : Nat} (h1 : q ∈ d.free j) (h2 : q ∈ d.free k) : j = k := by
  have a := ((I.free j q).1 h1).2.1
  have b := ((I.free k q).1 h2).2.1
  rw [a] at b
  injection b

/-- A page off its list: what the memory says then. -/
theorem Rep.drop_lists (R : Rep S B d h) {j p : Nat} (hp : p ∈ d.free j) :
    (B.σ.remove (B.heads j) (B.adr p)).2.2 = 0 ∧ (B.drop j p).Ok ∧ (B.drop j p).σ.Ok ∧ Unt B.σ (B.drop j p).σ (fun q => (d.c q).1 ≠ 0) ∧
    (∀ k, k ≤ d.O → (B.drop j p).heads k = hdA (B.drop j p).σ 0 (upd d.free j ((d.free j).filter (· ≠ p)) k)) ∧ ∀ k, k ≤ d.O → seg (B.drop j p).σ 0 (upd d.free j ((d.free j).filter (· ≠ p)) k) 0 := by
  obtain ⟨a, b, hab⟩ := List.append_of_mem hp
  have hj := R.free_O hp
  have hnd := R.inv.nodup j
  have hseg := R.links j hj
  have hpg : Pgs B.σ (d.free j) := R.pgs fun q hq => R.free_lt hq
  rw [hab] at hnd hseg hpg
  have hh : B.heads j = hdA B.σ 0 (a ++ p :: b) := by rw [R.heads j hj, hab]
  obtain ⟨h1, h2, h3⟩ := remove_seg R.sok hseg hpg hnd
  have hfil : (d.free j).filter (· ≠ p) = a ++ b := by rw [hab]; exact filter_split hnd
  have he : B.σ.remove (B.heads j) (B.adr p) = B.σ.remove (hdA B.σ 0 (a ++ p :: b)) (B.σ.ad p) := by rw [hh]; rfl
  have hsub : ∀ q ∈ a ++ b, q ∈ d.free j := fun q hq => by
    rw [hab]
    rcases List.mem_append.1 hq with h | h
    · exact List.mem_append_left _ h
    · exact List.mem_append_right _ (List.mem_cons_of_mem _ h)
  have hσ : (B.drop j p).σ = (B.σ.remove (hdA B.σ 0 (a ++ p :: b)) (B.σ.ad p)).1 := by unfold BS.drop; rw [he]
  have hu : Unt B.σ (B.drop j p).σ (fun q => q ∉ a ++ b) := by rw [hσ]; exact h3
  have hO := R.ord
  refine ⟨by rw [he, h1], ⟨?_, fun i hi => ?_⟩, by rw [hσ]; exact remove_ok R.sok, hu.mono fun q hq hm => hq (by rw [((R.inv.free j q).1 (hsub q hm)).2.1]), fun k hk => ?_, fun k hk => ?_⟩
  · show B.μ.order = (B.drop j p).σ.order
    rw [hu.order]; exact R.ok.order
  · rw [hu.order] at hi
    show (if i = j then (B.σ.remove (B.heads j) (B.adr p)).2.1 else B.heads i) < _
    split
    · rename_i e; exact remove_lt R.sok (R.ok.heads j (by rw [← e]; exact hi))
    · exact R.ok.heads i hi
  · show (if k = j then (B.σ.remove (B.heads j) (B.adr p)).2.1 else B.heads k) = _
    by_cases hkj : k = j
    · subst hkj
      rw [if_pos rfl, Bd.upd_same, hfil, he, h1, hdA_eq hu.base]
    · rw [if_neg hkj, Bd.upd_other hkj, hdA_eq hu.base]; exact R.heads k hk
  · by_cases hkj : k = j
    · subst hkj
      rw [Bd.upd_same, hfil, hσ]; exact h2
    · rw [Bd.upd_other hkj]
      exact seg_same hu (fun q hq hm => hkj (Inv.disj R.inv hq (hsub q hm))) (R.links k hk)

/-- A page put on a list: what the memory says then. -/
theorem Rep.push_lists (R : Rep S B d h) {j p : Nat} (hp : p < d.pages) (hj : j ≤ d.O) (hc : (d.c p).1 ≠ 0) :
    (B.enter p j).Ok ∧ (B.enter p j).σ.Ok ∧ Unt B.σ (B.enter p j).σ (fun q => (d.c q).1 ≠ 0 ∧ q ≠ p) ∧
    (∀ k, k ≤ d.O → (B.enter p j).heads k = hdA (B.enter p j).σ 0 (upd d.free j (p :: d.free j) k)) ∧ ∀ k, k ≤ d.O → seg (B.enter p j).σ 0 (upd d.free j (p :: d.free j) k) 0 := by
  have hpn : ∀ k, p ∉ d.free k := fun k hm => hc (by rw [((R.inv.free k p).1 hm).2.1])
  have hpg : Pgs B.σ (p :: d.free j) := R.pgs fun q hq => by
    rcases List.mem_cons.1 hq with rfl | hq
    · exact hp
    · exact R.free_lt hq
  obtain ⟨h1, h2, h3⟩ := push_seg (R.links j hj) hpg (hpn j)
  have he : B.σ.push (B.heads j) (B.adr p) = B.σ.push (hdA B.σ 0 (d.free j)) (B.σ.ad p) := by rw [R.heads j hj]; rfl
  have hσ : (B.enter p j).σ = (B.σ.push (hdA B.σ 0 (d.free j)) (B.σ.ad p)).1 := by unfold BS.enter; rw [he]
  have hu : Unt B.σ (B.enter p j).σ (fun q => q ≠ p ∧ q ∉ d.free j) := by rw [hσ]; exact h3
  have hadr : B.adr p < 18446744073709551616 := by
    have := R.lt hp
    have e : (2 : Nat) ^ 64 = 18446744073709551616 := by decide
    rw [e] at this
    exact this
  have hO := R.ord
  refine ⟨⟨?_, fun i hi => ?_⟩, by rw [hσ]; exact push_ok R.sok, hu.mono fun q hq => ⟨hq.2, fun hm => hq.1 (by rw [((R.inv.free j q).1 hm).2.1])⟩, fun k hk => ?_, fun k hk => ?_⟩
  · show (B.μ.runI p j 0).order = (B.enter p j).σ.order
    rw [Mp.runI_order, hu.order]; exact R.ok.order
  · rw [hu.order] at hi
    show (if i = j then (B.σ.push (B.heads j) (B.adr p)).2.1 else B.heads i) < _
    split
    · rename_i e; exact push_lt (R.ok.heads j (by rw [← e]; exact hi)) hadr
    · exact R.ok.heads i hi
  · show (if k = j then (B.σ.push (B.heads j) (B.adr p)).2.1 else B.heads k) = _
    by_cases hkj : k = j
    · subst hkj
      rw [if_pos rfl, Bd.upd_same, he, h1]
      exact (ad_eq hu.base p).symm
    · rw [if_neg hkj, Bd.upd_other hkj, hdA_eq hu.base]; exact R.heads k hk
  · by_cases hkj : k = j
    · subst hkj
      rw [Bd.upd_same, hσ]; exact h2
    · rw [Bd.upd_other hkj]
      exact seg_same hu (fun q hq => ⟨fun e => hpn k (e ▸ hq), fun hm => hkj (Inv.disj R.inv hq hm)⟩) (R.links k hk)

/-! ## Runs -/

theorem runI_ok {μ : Mp} (ok : μ.Ok) {p k : Nat} {z : Int} (hz : z = 0 ∨ z = 2) : (μ.runI p k z).Ok := by
  unfold Mp.runI
  split
  · rename_i hc; exact ok.runTo hz hc.1
  · exact ok

/-- What a run of a block's pages says. -/
theorem Rep.run_pages (R : Rep S B d h) {p k : Nat} {y : Nat} (hp : p + 2 ^ k ≤ d.pages) (hk : k ≤ d.O) (hm : p % 2 ^ k = 0) (q : Nat) :
    (B.μ.runI p k ((2 * y : Nat) : Int)).pages q = if q / 2 ^ k = p / 2 ^ k then pgOf (y, k) q else B.μ.pages q := by
  unfold Mp.runI
  rw [if_pos ⟨by rw [R.ok.order, ← R.ord]; exact hk, hm, by rw [R.n]; exact hp⟩]
  show (if p ≤ q ∧ q < p + 2 ^ k then plainPg (if q = p then ((2 * y : Nat) : Int) else ((2 * y : Nat) : Int) + 1) k else B.μ.pages q) = _
  by_cases hq : p ≤ q ∧ q < p + 2 ^ k
  · rw [if_pos hq, if_pos ((in_block hm).2 hq)]
    unfold pgOf
    by_cases hqp : q = p
    · subst hqp; rw [if_pos rfl]; simp only [hm, if_true]; rfl
    · have : ¬ q % 2 ^ k = 0 := fun e => hqp (Bd.start_eq ((in_block hm).2 hq) hm e)
      rw [if_neg hqp]; simp only [this, if_false]; rfl
  · rw [if_neg hq, if_neg (fun e => hq ((in_block hm).1 e))]

theorem runI_pairs {μ : Mp} {p k : Nat} {z : Int} : (μ.runI p k z).pairs = μ.pairs := by unfold Mp.runI; split <;> rfl

/-! ## One step -/

theorem hal_value {c : Nat → Nat × Nat} {p k q : Nat} (hp : p % 2 ^ (k + 1) = 0) : halve c p k q = if q / 2 ^ k = p / 2 ^ k then (2, k) else if q / 2 ^ k = (p + 2 ^ k) / 2 ^ k then (0, k) else c q := by
  obtain ⟨f1, f2, f3, f4, f5, f6, f7⟩ := half_facts hp
  unfold halve paint
  rw [f3]
  by_cases ha : q / 2 ^ k = p / 2 ^ k
  · rw [if_neg (by omega), if_pos ((f7 q).2 (.inl ha)), if_pos ha]
  · by_cases hb : q / 2 ^ k = p / 2 ^ k + 1
    · rw [if_pos hb, if_neg ha, if_pos hb]
    · rw [if_neg hb, if_neg ha, if_neg hb, if_neg (fun hc => ((f7 q).1 hc).elim ha (fun x => hb (by rw [x, f3])))]

/-- A page's list is told by its pair's bit. -/
theorem Rep.turn (R : Rep S B d h) {k p : Nat} (hk : k < d.O) (hp : p < d.pages) (hm : p % 2 ^ k = 0) (hc : p ∉ d.free k) :
    B.turn p k = (⟨B.σ, B.μ.flip k (p / 2 ^ (k + 1)), B.heads⟩, !decide (bud k p ∈ d.free k)) := by
  have hn := R.n
  have hO := R.ord
  unfold BS.turn
  rw [if_neg (by omega), if_pos ⟨by omega, by omega⟩]
  congr 1
  have hlt : p / 2 ^ (k + 1) < d.pages / 2 ^ (k + 1) := by
    have := pair_lt R.mok (k := k) (p := p) (by rw [R.ok.order]; omega) (by omega)
    rwa [hn] at this
  rw [R.bits k _ hk hlt]
  obtain ⟨f1, f2, f3, f4, f5, f6, f7, f8⟩ := bud_facts hm
  have hl : p / 2 ^ (k + 1) * 2 ^ (k + 1) = low k p := rfl
  rw [hl]
  rcases f8 with ⟨e1, e2⟩ | ⟨e1, e2⟩
  · rw [e1, ← e2, decide_eq_false hc]; simp
  · rw [e1, ← e2, decide_eq_false hc]; simp

/-- (1) A free block is taken in the hand, off its list. -/
theorem Rep.popTurn (R : Rep S B d none) {j p : Nat} (hp : p ∈ d.free j) :
    (B.σ.remove (B.heads j) (B.adr p)).2.2 = 0 ∧ Rep S ((B.drop j p).turn p j).1 (d.pop j p) (some (p, j)) ∧ Unt B.σ ((B.drop j p).turn p j).1.σ (fun q => (d.c q).1 ≠ 0) := by
  obtain ⟨h0, hok, hsok, hu, hhd, hlk⟩ := R.drop_lists hp
  have ha := (R.inv.free j p).1 hp
  have hj := R.free_O hp
  have hO := R.ord
  have hn := R.n
  have hcf := turn_cf (B := B.drop j p) (p := p) (k := j)
  have hbits : Bits ((B.drop j p).turn p j).1.μ.pairs d.O d.pages (upd d.free j ((d.free j).filter (· ≠ p))) := by
    have hdo : (B.drop j p).σ.order = B.σ.order := hu.order
    unfold BS.turn
    by_cases hjO : j = B.σ.order
    · rw [if_pos (by rw [hdo]; exact hjO)]
      exact R.bits.same fun i hi => Bd.upd_other (by omega)
    · rw [if_neg (by rw [hdo]; exact hjO), if_pos ⟨by rw [hdo]; omega, by show p < B.μ.n; rw [hn]; exact ha.1⟩]
      refine Bits.toggle R.bits ha.2.2 (fun i hi => Bd.upd_other hi) (fun q hq => ?_) ?_
      · rw [Bd.upd_same]; simp [hq]
      · rw [Bd.upd_same]; simp [hp]
  have hpages : ((B.drop j p).turn p j).1.μ.pages = B.μ.pages := by
    unfold BS.turn; split
    · rfl
    · split <;> rfl
  refine ⟨h0, ⟨⟨?_, ?_⟩, by rw [hcf.1]; exact hsok, ?_, R.inv.pop hp, by rw [hcf.1, hu.order]; exact hO, by rw [hcf.2.2.1]; exact hn, by rw [hcf.1, hu.n, hu.order]; exact R.mem, ?_, ?_, ?_, ?_, hbits⟩, by rw [hcf.1]; exact hu⟩
  · rw [hcf.2.2.2, hcf.1]; exact hok.order
  · rw [hcf.1, hcf.2.1]; exact hok.heads
  · unfold BS.turn
    split
    · exact R.mok
    · split
      · exact R.mok.flip
      · exact R.mok
  · intro k hk; rw [hcf.2.1, hcf.1]; exact hhd k hk
  · intro k hk; rw [hcf.1]; exact hlk k hk
  · intro q hq hc hS
    rw [hpages]
    have hc' : paint d.c p j (2, j) q = d.c q := by
      unfold paint; split
      · rename_i hb
        exact absurd (show (paint d.c p j (2, j) q).1 = 2 by unfold paint; rw [if_pos hb]) hc
      · rfl
    have hcq : ((d.pop j p).c q) = d.c q := hc'
    rw [hcq] at hc ⊢
    exact R.pages q hq hc hS
  · intro q hS
    rw [hpages]
    obtain ⟨h1, h2⟩ := R.slab q hS
    refine ⟨?_, h2⟩
    have := (recolour R.inv.cov ha (z := 2) (by omega)).2 1 q 0
    rw [if_neg (by omega), if_neg (by omega)] at this
    exact this.2 h1

/-- (2) The upper half of the block in the hand is let go. -/
theorem Rep.splitTurn {k p : Nat} (R : Rep S B d (some (p, k + 1))) :
    Rep S (((B.enter (p + 2 ^ k) k).turn (p + 2 ^ k) k).1) (d.split k p) (some (p, k)) ∧ Unt B.σ (((B.enter (p + 2 ^ k) k).turn (p + 2 ^ k) k).1).σ (fun q => (d.c q).1 ≠ 0 ∧ q ≠ p + 2 ^ k) := by
  have ha := (R.inv.hole (k + 1) p).1 rfl
  obtain ⟨f1, f2, f3, f4, f5, f6, f7⟩ := half_facts ha.2.2
  have hk1 := R.le_O ha
  have hO := R.ord
  have hn := R.n
  have h2 := Bd.pow_pos k
  have hble := R.block_le ha
  rw [Nat.pow_succ] at hble
  have hu1 : p + 2 ^ k < d.pages := by omega
  have hcu : d.c (p + 2 ^ k) = (2, k + 1) := by
    have := R.inv.cov.block p (p + 2 ^ k) ha.1 (by rw [ha.2.1]; exact f4)
    rw [this, ha.2.1]
  obtain ⟨hok, hsok, hu, hhd, hlk⟩ := R.push_lists (j := k) hu1 (by omega) (by rw [hcu]; simp)
  have hcf := turn_cf (B := B.enter (p + 2 ^ k) k) (p := p + 2 ^ k) (k := k)
  have hrun : ∀ q, (B.μ.runI (p + 2 ^ k) k 0).pages q = if q / 2 ^ k = (p + 2 ^ k) / 2 ^ k then pgOf (0, k) q else B.μ.pages q := R.run_pages (p := p + 2 ^ k) (k := k) (y := 0) (by omega) (by omega) f2
  have hnot : p + 2 ^ k ∉ d.free k := fun hm => by have := ((R.inv.free k _).1 hm).2.1; rw [hcu] at this; cases this
  have hturn : (B.enter (p + 2 ^ k) k).turn (p + 2 ^ k) k = (⟨(B.enter (p + 2 ^ k) k).σ, (B.μ.runI (p + 2 ^ k) k 0).flip k ((p + 2 ^ k) / 2 ^ (k + 1)), (B.enter (p + 2 ^ k) k).heads⟩, !(B.μ.runI (p + 2 ^ k) k 0).pairs k ((p + 2 ^ k) / 2 ^ (k + 1))) := by
    unfold BS.turn
    rw [if_neg (by rw [hu.order]; omega), if_pos ⟨by rw [hu.order]; omega, by show p + 2 ^ k < (B.μ.runI (p + 2 ^ k) k 0).n; rw [Mp.runI_n, hn]; exact hu1⟩]
    rfl
  have hbits : Bits ((B.enter (p + 2 ^ k) k).turn (p + 2 ^ k) k).1.μ.pairs d.O d.pages (upd d.free k ((p + 2 ^ k) :: d.free k)) := by
    rw [hturn]
    show Bits (fun j => if j = k then flipped ((B.μ.runI (p + 2 ^ k) k 0).pairs k) ((p + 2 ^ k) / 2 ^ (k + 1)) else (B.μ.runI (p + 2 ^ k) k 0).pairs j) _ _ _
    rw [runI_pairs]
    refine Bits.toggle R.bits f2 (fun i hi => Bd.upd_other hi) (fun q hq => ?_) ?_
    · rw [Bd.upd_same]; simp [hq]
    · rw [Bd.upd_same]; simp [hnot]
  have hpages : ((B.enter (p + 2 ^ k) k).turn (p + 2 ^ k) k).1.μ.pages = (B.μ.runI (p + 2 ^ k) k 0).pages := by rw [hturn]
  have hin : ∀ q, q / 2 ^ k = p / 2 ^ k ∨ q / 2 ^ k = (p + 2 ^ k) / 2 ^ k → d.c q = (2, k + 1) := fun q hq => by
    have := R.inv.cov.block p q ha.1 (by rw [ha.2.1]; exact (f7 q).2 hq)
    rw [this, ha.2.1]
  refine ⟨⟨⟨?_, ?_⟩, by rw [hcf.1]; exact hsok, ?_, R.inv.split, by rw [hcf.1, hu.order]; exact hO, ?_, by rw [hcf.1, hu.n, hu.order]; exact R.mem, ?_, ?_, ?_, ?_, hbits⟩, by rw [hcf.1]; exact hu⟩
  · rw [hcf.2.2.2, hcf.1]; exact hok.order
  · rw [hcf.1, hcf.2.1]; exact hok.heads
  · rw [hturn]; exact (runI_ok R.mok (.inl rfl)).flip
  · rw [hcf.2.2.1]; show (B.μ.runI (p + 2 ^ k) k 0).n = d.pages; rw [Mp.runI_n]; exact hn
  · intro j hj; rw [hcf.2.1, hcf.1]; exact hhd j hj
  · intro j hj; rw [hcf.1]; exact hlk j hj
  · intro q hq hc hS
    rw [hpages, hrun]
    have hcq : (d.split k p).c q = halve d.c p k q := rfl
    rw [hcq, hal_value ha.2.2] at hc ⊢
    by_cases ha1 : q / 2 ^ k = p / 2 ^ k
    · rw [if_pos ha1] at hc; exact absurd rfl hc
    · rw [if_neg ha1] at hc ⊢
      by_cases hb1 : q / 2 ^ k = (p + 2 ^ k) / 2 ^ k
      · rw [if_pos hb1, if_pos hb1]
      · rw [if_neg hb1] at hc ⊢
        rw [if_neg hb1]
        exact R.pages q hq hc hS
  · intro q hS
    obtain ⟨g1, g2⟩ := R.slab q hS
    rw [hpages, hrun]
    have hne : ¬ q / 2 ^ k = (p + 2 ^ k) / 2 ^ k := fun e => by have := hin q (.inr e); rw [g1.2.1] at this; cases this
    rw [if_neg hne]
    refine ⟨((halve_at R.inv.cov ha).2 1 q 0).2 (.inr (.inr ⟨g1, fun e => ?_⟩)), g2⟩
    subst e
    have := g1.2.1
    rw [ha.2.1] at this; cases this

/-- (3) The block in the hand is live. -/
theorem Rep.runLive {k p : Nat} (R : Rep S B d (some (p, k))) : Rep S ⟨B.σ, B.μ.runI p k 2, B.heads⟩ (d.liven k p) none := by
  have ha := (R.inv.hole k p).1 rfl
  have hk := R.le_O ha
  have hrun := R.run_pages (p := p) (k := k) (y := 1) (R.block_le ha) hk ha.2.2
  refine ⟨⟨by show (B.μ.runI p k 2).order = B.σ.order; rw [Mp.runI_order]; exact R.ok.order, R.ok.heads⟩, R.sok, runI_ok R.mok (.inr rfl), R.inv.liven, R.ord, by show (B.μ.runI p k 2).n = _; rw [Mp.runI_n]; exact R.n, R.mem, R.heads, R.links, fun q hq hc hS => ?_, fun q hS => ?_, by show Bits (B.μ.runI p k 2).pairs _ _ _; rw [runI_pairs]; exact R.bits⟩
  · refine (hrun q).trans ?_
    have hcq : (d.liven k p).c q = paint d.c p k (1, k) q := rfl
    rw [hcq] at hc ⊢
    unfold paint at hc ⊢
    split
    · rfl
    · rename_i hb
      rw [if_neg hb] at hc
      exact R.pages q hq hc hS
  · obtain ⟨g1, g2⟩ := R.slab q hS
    have hne : ¬ q / 2 ^ k = p / 2 ^ k := fun e => by
      have := R.inv.cov.block p q ha.1 (by rw [ha.2.1]; exact e)
      rw [ha.2.1, g1.2.1] at this; cases this
    refine ⟨?_, ?_⟩
    · have := (recolour R.inv.cov ha (z := 1) (by omega)).2 1 q 0
      rw [if_pos rfl] at this
      exact this.2 (.inr g1)
    · have := hrun q
      rw [if_neg hne] at this
      show Pg.kind ((B.μ.runI p k ((2 * 1 : Nat) : Int)).pages q) = 4
      rw [this]; exact g2

/-- (4) A live block is taken in the hand. -/
theorem Rep.unlive (R : Rep S B d none) {k p : Nat} (hp : (p, k) ∈ d.live) (hS : ¬ S p) : Rep S B (d.unlive k p) (some (p, k)) := by
  have ha := (R.inv.live k p).1 hp
  refine ⟨R.ok, R.sok, R.mok, R.inv.unlive hp, R.ord, R.n, R.mem, R.heads, R.links, fun q hq hc hSq => ?_, fun q hSq => ?_, R.bits⟩
  · have hcq : (d.unlive k p).c q = paint d.c p k (2, k) q := rfl
    rw [hcq] at hc ⊢
    unfold paint at hc ⊢
    split
    · rename_i hb; rw [if_pos hb] at hc; exact absurd rfl hc
    · rename_i hb
      rw [if_neg hb] at hc
      exact R.pages q hq hc hSq
  · obtain ⟨g1, g2⟩ := R.slab q hSq
    refine ⟨?_, g2⟩
    have := (recolour R.inv.cov ha (z := 2) (by omega)).2 1 q 0
    rw [if_neg (by omega), if_pos rfl] at this
    exact this.2 ⟨fun e => hS (e ▸ hSq), g1⟩

/-- (5) The block in the hand is let go: its other half is not free. -/
theorem Rep.turnEnter {k p : Nat} (R : Rep S B d (some (p, k))) (hb : k = d.O ∨ bud k p ∉ d.free k) :
    (B.turn p k).2 = true ∧ Rep S ((B.turn p k).1.enter p k) (d.freed k p) none ∧ Unt B.σ ((B.turn p k).1.enter p k).σ (fun q => (d.c q).1 ≠ 0 ∧ q ≠ p) := by
  have ha := (R.inv.hole k p).1 rfl
  have hk := R.le_O ha
  have hO := R.ord
  have hpn : ∀ j, p ∉ d.free j := fun j hm => by have := ((R.inv.free j _).1 hm).2.1; rw [ha.2.1] at this; cases this
  have hcf := turn_cf (B := B) (p := p) (k := k)
  have ht : (B.turn p k).2 = true := by
    by_cases hkO : k = B.σ.order
    · unfold BS.turn; rw [if_pos hkO]
    · rw [R.turn (by omega) ha.1 ha.2.2 (hpn k)]
      have := hb.resolve_left (by omega)
      simp [this]
  obtain ⟨hok, hsok, hu, hhd, hlk⟩ := R.push_lists (j := k) ha.1 hk (by rw [ha.2.1]; simp)
  have hE : (B.turn p k).1.enter p k = ⟨(B.enter p k).σ, (B.turn p k).1.μ.runI p k 0, (B.enter p k).heads⟩ := by
    unfold BS.enter
    have ead : (B.turn p k).1.adr p = B.adr p := by unfold BS.adr; rw [hcf.1]
    rw [ead, hcf.1, hcf.2.1]
  have htpages : (B.turn p k).1.μ.pages = B.μ.pages := by
    unfold BS.turn; split
    · rfl
    · split <;> rfl
  have hrun : ∀ q, ((B.turn p k).1.μ.runI p k 0).pages q = (B.μ.runI p k ((2 * 0 : Nat) : Int)).pages q := by
    intro q
    unfold Mp.runI
    rw [hcf.2.2.2, hcf.2.2.1]
    split
    · show (if p ≤ q ∧ q < p + 2 ^ k then _ else (B.turn p k).1.μ.pages q) = (if p ≤ q ∧ q < p + 2 ^ k then _ else B.μ.pages q)
      rw [htpages]; rfl
    · rw [htpages]
  have hrun2 := R.run_pages (p := p) (k := k) (y := 0) (R.block_le ha) hk ha.2.2
  have hbits : Bits ((B.turn p k).1.μ.runI p k 0).pairs d.O d.pages (upd d.free k (p :: d.free k)) := by
    rw [runI_pairs]
    by_cases hkO : k = B.σ.order
    · have : (B.turn p k).1.μ.pairs = B.μ.pairs := by unfold BS.turn; rw [if_pos hkO]
      rw [this]
      exact R.bits.same fun i hi => Bd.upd_other (by omega)
    · rw [R.turn (by omega) ha.1 ha.2.2 (hpn k)]
      refine Bits.toggle R.bits ha.2.2 (fun i hi => Bd.upd_other hi) (fun q hq => ?_) ?_
      · rw [Bd.upd_same]; simp [hq]
      · rw [Bd.upd_same]; simp [hpn k]
  have hmok : (B.turn p k).1.μ.Ok := by
    unfold BS.turn
    split
    · exact R.mok
    · split
      · exact R.mok.flip
      · exact R.mok
  refine ⟨ht, ?_, by rw [hE]; exact hu⟩
  rw [hE]
  refine ⟨⟨?_, hok.heads⟩, hsok, runI_ok hmok (.inl rfl), R.inv.freed hb, by show d.O = (B.enter p k).σ.order; rw [hu.order]; exact hO, ?_, by show d.pages ≤ (B.enter p k).σ.n * 2 ^ (B.enter p k).σ.order; rw [hu.n, hu.order]; exact R.mem, hhd, hlk, fun q hq hc hS => ?_, fun q hS => ?_, hbits⟩
  · show ((B.turn p k).1.μ.runI p k 0).order = (B.enter p k).σ.order
    rw [Mp.runI_order, hcf.2.2.2, hu.order]; exact R.ok.order
  · show ((B.turn p k).1.μ.runI p k 0).n = d.pages
    rw [Mp.runI_n, hcf.2.2.1]; exact R.n
  · refine (hrun q).trans ((hrun2 q).trans ?_)
    have hcq : (d.freed k p).c q = paint d.c p k (0, k) q := rfl
    rw [hcq] at hc ⊢
    unfold paint at hc ⊢
    split
    · rfl
    · rename_i hb
      rw [if_neg hb] at hc
      exact R.pages q hq hc hS
  · obtain ⟨g1, g2⟩ := R.slab q hS
    have hne : ¬ q / 2 ^ k = p / 2 ^ k := fun e => by
      have := R.inv.cov.block p q ha.1 (by rw [ha.2.1]; exact e)
      rw [ha.2.1, g1.2.1] at this; cases this
    refine ⟨?_, ?_⟩
    · have := (recolour R.inv.cov ha (z := 0) (by omega)).2 1 q 0
      rw [if_neg (by omega), if_neg (by omega)] at this
      exact this.2 g1
    · show Pg.kind (((B.turn p k).1.μ.runI p k 0).pages q) = 4
      rw [hrun q, hrun2 q, if_neg hne]; exact g2

/-- (6) The block in the hand and its free other half are one. -/
theorem Rep.turnDrop {k p : Nat} (R : Rep S B d (some (p, k))) (hk : k < d.O) (hb : bud k p ∈ d.free k) :
    (B.turn p k).2 = false ∧ ((B.turn p k).1.σ.remove ((B.turn p k).1.heads k) ((B.turn p k).1.adr (bud k p))).2.2 = 0 ∧
    Rep S ((B.turn p k).1.drop k (bud k p)) (d.merge k p) (some (low k p, k + 1)) ∧ Unt B.σ ((B.turn p k).1.drop k (bud k p)).σ (fun q => (d.c q).1 ≠ 0) ∧ min p (bud k p) = low k p := by
  have ha := (R.inv.hole k p).1 rfl
  have hbu := (R.inv.free k _).1 hb
  have hO := R.ord
  have hpn : ∀ j, p ∉ d.free j := fun j hm => by have := ((R.inv.free j _).1 hm).2.1; rw [ha.2.1] at this; cases this
  obtain ⟨f1, f2, f3, f4, f5, f6, f7, f8⟩ := bud_facts ha.2.2
  have ht := R.turn hk ha.1 ha.2.2 (hpn k)
  rw [decide_eq_true hb] at ht
  obtain ⟨h0, hok, hsok, hu, hhd, hlk⟩ := R.drop_lists hb
  have hjoin := join_at R.inv.cov ha hbu hk
  rw [ht]
  refine ⟨rfl, h0, ⟨⟨?_, hok.heads⟩, hsok, R.mok.flip, R.inv.merge hk hb, by show d.O = (B.drop k (bud k p)).σ.order; rw [hu.order]; exact hO, R.n, by show d.pages ≤ (B.drop k (bud k p)).σ.n * 2 ^ (B.drop k (bud k p)).σ.order; rw [hu.n, hu.order]; exact R.mem, hhd, hlk, fun q hq hc hS => ?_, fun q hS => ?_, ?_⟩, hu, ?_⟩
  · show B.μ.order = (B.drop k (bud k p)).σ.order
    rw [hu.order]; exact R.ok.order
  · have hcq : (d.merge k p).c q = paint d.c (low k p) (k + 1) (2, k + 1) q := rfl
    rw [hcq] at hc ⊢
    unfold paint at hc ⊢
    split
    · rename_i hb; rw [if_pos hb] at hc; exact absurd rfl hc
    · rename_i hb
      rw [if_neg hb] at hc
      exact R.pages q hq hc hS
  · obtain ⟨g1, g2⟩ := R.slab q hS
    refine ⟨(hjoin.2 1 q 0).2 (.inr ⟨g1, fun e => ?_, fun e => ?_⟩), g2⟩
    · subst e; have := g1.2.1; rw [ha.2.1] at this; cases this
    · subst e; have := g1.2.1; rw [hbu.2.1] at this; cases this
  · show Bits (fun j => if j = k then flipped (B.μ.pairs k) (p / 2 ^ (k + 1)) else B.μ.pairs j) d.O d.pages (upd d.free k ((d.free k).filter (· ≠ bud k p)))
    rw [← f3]
    refine Bits.toggle R.bits f1 (fun i hi => Bd.upd_other hi) (fun q hq => ?_) ?_
    · rw [Bd.upd_same]; simp [hq]
    · rw [Bd.upd_same]; simp [hb]
  · rcases f8 with ⟨e1, e2⟩ | ⟨e1, e2⟩ <;> omega

/-! ## Whole deeds -/

theorem Rep.cutN {to p : Nat} : ∀ (n : Nat) {B : BS} {d : D}, Rep S B d (some (p, to + n)) →
    Rep S (B.cutN p to n) (d.splits p to n) (some (p, to)) ∧ Unt B.σ (B.cutN p to n).σ (fun q => (d.c q).1 ≠ 0 ∧ ¬ (p + 2 ^ to ≤ q ∧ q < p + 2 ^ (to + n)))
  | 0, B, d, R => ⟨R, Unt.refl _ _⟩
  | n + 1, B, d, R => by
    have R' : Rep S B d (some (p, (to + n) + 1)) := R
    obtain ⟨R1, u1⟩ := R'.splitTurn
    obtain ⟨R2, u2⟩ := Rep.cutN n R1
    have ha := (R.inv.hole _ p).1 rfl
    have hle : 2 ^ to ≤ 2 ^ (to + n) := Nat.pow_le_pow_right (by omega) (by omega)
    have h2 : 2 ^ (to + (n + 1)) = 2 ^ (to + n) + 2 ^ (to + n) := by rw [← Nat.add_assoc, Nat.pow_succ]; omega
    have h3 := Bd.pow_pos (to + n)
    rw [h2]
    refine ⟨R2, u1.trans u2 fun q hq => ⟨⟨hq.1, fun e => hq.2 ?_⟩, ?_, fun h => hq.2 ⟨h.1, ?_⟩⟩⟩
    · generalize 2 ^ (to + n) = A at *
      generalize 2 ^ to = T at *
      omega
    · have hcq : (d.split (to + n) p).c q = halve d.c p (to + n) q := rfl
      rw [hcq, hal_value (c := d.c) (p := p) (k := to + n) (q := q) (show p % 2 ^ (to + n + 1) = 0 from ha.2.2)]
      split
      · simp
      · split
        · rename_i hb
          obtain ⟨f1, f2, f3, f4, f5, f6, f7⟩ := half_facts (p := p) (k := to + n) (show p % 2 ^ (to + n + 1) = 0 from ha.2.2)
          have := (in_block f2).1 hb
          refine absurd ?_ hq.2
          generalize 2 ^ (to + n) = A at *
          generalize 2 ^ to = T at *
          omega
        · exact hq.1
    · have h4 := h.2
      generalize 2 ^ (to + n) = A at *
      generalize 2 ^ to = T at *
      omega

theorem Rep.cut {fr to p : Nat} (R : Rep S B d (some (p, fr))) (hle : to ≤ fr) :
    Rep S (B.cut p fr to) (d.cut p fr to) none ∧ Unt B.σ (B.cut p fr to).σ (fun q => (d.c q).1 ≠ 0 ∧ ¬ (p + 2 ^ to ≤ q ∧ q < p + 2 ^ fr)) := by
  obtain ⟨n, rfl⟩ : ∃ n, fr = to + n := ⟨fr - to, by omega⟩
  obtain ⟨R1, u1⟩ := Rep.cutN n R
  unfold BS.cut D.cut
  rw [show to + n - to = n by omega]
  exact ⟨R1.runLive, u1⟩

theorem Rep.pop_eq (R : Rep S B d none) {j p : Nat} {t : List Nat} (hf : d.free j = p :: t) :
    B.σ.pop (B.heads j) = ((B.drop j p).σ, (B.drop j p).heads j, B.σ.ad p, 0) ∧ (⟨(B.drop j p).σ, B.μ, fun i => if i = j then (B.drop j p).heads j else B.heads i⟩ : BS) = B.drop j p := by
  have hp : p ∈ d.free j := by rw [hf]; exact List.mem_cons_self
  obtain ⟨h0, hok, hsok, hu, hhd, hlk⟩ := R.drop_lists hp
  have hj := R.free_O hp
  have hh : B.heads j = B.σ.ad p := by rw [R.heads j hj, hf]; rfl
  have hne : B.heads j ≠ 0 := by rw [hh]; have := R.sok.base; unfold Sp.ad; omega
  have he : B.σ.remove (B.heads j) (B.heads j) = B.σ.remove (B.heads j) (B.adr p) := by rw [hh]; rfl
  refine ⟨?_, ?_⟩
  · unfold Sp.pop
    rw [if_neg hne, he, h0, if_neg (by omega)]
    unfold BS.drop
    simp [hh]
  · unfold BS.drop
    simp

theorem Rep.takeN (R : Rep S B d none) {k : Nat} : ∀ (n j : Nat), k ≤ j → j + n = d.O + 1 →
    (d.first j n = none → B.takeN k j n = (B, 0, 2)) ∧
    ∀ i p t, d.first j n = some i → d.free i = p :: t → B.takeN k j n = ((((B.drop i p).turn p i).1).cut p i k, B.σ.ad p, 0)
  | 0, j, _, _ => ⟨fun _ => rfl, fun i p t h => by cases h⟩
  | n + 1, j, hkj, hn => by
    have ih := Rep.takeN R (k := k) n (j + 1) (by omega) (by omega)
    rw [takeN_succ]
    unfold D.first
    cases hf : d.free j with
    | nil =>
      have hh : B.heads j = 0 := by rw [R.heads j (by omega), hf]; rfl
      rw [hh, pop_zero]
      simp only [if_true, ne_eq, not_true_eq_false, if_false]
      exact ih
    | cons p t =>
      have hp : p ∈ d.free j := by rw [hf]; exact List.mem_cons_self
      obtain ⟨e1, e2⟩ := R.pop_eq hf
      have hpo : (B.drop j p).pageOf (B.σ.ad p) = some p := by
        have := R.pageOf (R.free_lt hp)
        have hb : (B.drop j p).σ.base = B.σ.base := (R.drop_lists hp).2.2.2.1.base
        unfold BS.pageOf at this ⊢
        rw [hb]; exact this
      rw [e1]
      simp only [e2, hpo]
      refine ⟨fun h => by simp at h, fun i q u h hq => ?_⟩
      simp at h
      subst h
      rw [hf] at hq
      injection hq with hq1 hq2
      subst hq1
      simp

/-- Taking a block. -/
theorem Rep.take (R : Rep S B d none) {k : Nat} (hk : k ≤ d.O) :
    (d.first k (d.O + 1 - k) = none → B.take k = (B, 0, 2) ∧ d.take k = (d, none)) ∧
    ∀ j, d.first k (d.O + 1 - k) = some j → ∃ p B', d.take k = ((d.pop j p).cut p j k, some p) ∧ p ∈ d.free j ∧ B.take k = (B', B.σ.ad p, 0) ∧ Rep S B' (d.take k).1 none ∧ Unt B.σ B'.σ (fun q => (d.c q).1 = 1) := by
  have hO := R.ord
  have ht := Rep.takeN R (k := k) (d.O + 1 - k) k (Nat.le_refl _) (by omega)
  have hbt : B.take k = B.takeN k k (d.O + 1 - k) := by
    unfold BS.take
    rw [if_pos ⟨by omega, by omega⟩, Int.toNat_natCast, hO]
  refine ⟨fun h => ⟨hbt.trans (ht.1 h), by unfold D.take; rw [h]⟩, fun j hj => ?_⟩
  obtain ⟨h1, h2, h3, h4⟩ := first_some hj
  cases hf : d.free j with
  | nil => exact absurd hf h3
  | cons p t =>
    have hp : p ∈ d.free j := by rw [hf]; exact List.mem_cons_self
    have hd : d.take k = ((d.pop j p).cut p j k, some p) := by unfold D.take; rw [hj]; simp only [hf]
    obtain ⟨h0, R1, u1⟩ := R.popTurn hp
    obtain ⟨R2, u2⟩ := R1.cut h1
    refine ⟨p, _, hd, List.mem_cons_self, hbt.trans (ht.2 j p t hj hf), ?_, u1.trans u2 fun q hq => ⟨by rw [hq]; simp, ?_, fun h => ?_⟩⟩
    · rw [hd]; exact R2
    · have ha := (R.inv.free j p).1 hp
      have hcq : (d.pop j p).c q = paint d.c p j (2, j) q := rfl
      rw [hcq]
      unfold paint
      split
      · simp
      · rw [hq]; simp
    · have ha := (R.inv.free j p).1 hp
      have h2 := Bd.pow_pos k
      have := R.inv.cov.block p q ha.1 (by rw [ha.2.1]; exact (in_block ha.2.2).2 ⟨by omega, h.2⟩)
      rw [this, ha.2.1] at hq
      cases hq

theorem Rep.isLive (R : Rep S B d none) {p k : Nat} (hp : (p, k) ∈ d.live) (hS : ¬ S p) : B.isLive (B.σ.ad p) k = some p := by
  have ha := (R.inv.live k p).1 hp
  unfold BS.isLive
  rw [R.pageOf ha.1]
  have := R.pages p ha.1 (by rw [ha.2.1]; simp) hS
  rw [ha.2.1] at this
  have h1 : Pg.kind (B.μ.pages p) = 2 := by rw [this]; unfold pgOf; simp only [ha.2.2, if_true]; rfl
  have h2 : Pg.order (B.μ.pages p) = k := by rw [this]; rfl
  simp only
  rw [if_pos ⟨h1, h2⟩]

theorem Rep.notLive (R : Rep S B d none) {a : Nat} {y : Int} (hn : ∀ p k : Nat, a = B.σ.ad p → y = k → (p, k) ∈ d.live → S p) : B.isLive a y = none := by
  unfold BS.isLive
  cases hq : B.pageOf a with
  | none => rfl
  | some p =>
    obtain ⟨ha, hp⟩ := R.pageOf_ad hq
    simp only
    refine if_neg fun hc => ?_
    by_cases hS : S p
    · have := (R.slab p hS).2
      rw [hc.1] at this; cases this
    · have hnh : (d.c p).1 ≠ 2 := fun h2 => by
        -- no block in the hand
        have hk := R.inv.cov.le p hp
        have h3 := R.inv.cov.block p (p / 2 ^ (d.c p).2 * 2 ^ (d.c p).2) hp (by rw [Nat.mul_div_cancel _ (Bd.pow_pos _)])
        refine R.inv.nohole (p := p / 2 ^ (d.c p).2 * 2 ^ (d.c p).2) (k := (d.c p).2) ⟨?_, ?_, Nat.mul_mod_left _ _⟩
        · exact block_lt R.whole hk hp (by rw [Nat.mul_div_cancel _ (Bd.pow_pos _)])
        · rw [h3, ← h2]
      have hpg := R.pages p hp hnh hS
      rw [hpg] at hc
      have hkind : (2 * (d.c p).1 + (if p % 2 ^ (d.c p).2 = 0 then 0 else 1) : Nat) = 2 := by
        have h1 : ((2 * (d.c p).1 + (if p % 2 ^ (d.c p).2 = 0 then 0 else 1) : Nat) : Int) = 2 := hc.1
        omega
      have hm : p % 2 ^ (d.c p).2 = 0 := by
        refine Classical.byContradiction fun h => ?_
        rw [if_neg h] at hkind; omega
      rw [if_pos hm] at hkind
      have hy : y = ((d.c p).2 : Int) := hc.2.symm
      exact hS (hn p (d.c p).2 ha hy ((R.inv.live _ _).2 ⟨hp, by rw [show d.c p = ((d.c p).1, (d.c p).2) from rfl, show (d.c p).1 = 1 by omega], hm⟩))

theorem Rep.giveN {L : Nat → Prop} : ∀ (n : Nat) {B : BS} {d : D} {p k : Nat}, Rep S B d (some (p, k)) → k + n = d.O + 1 → 0 < n → (∀ q, L q → (d.c q).1 = 1) →
    ∃ B', B.giveN p k n = (B', 0) ∧ Rep S B' (d.up k p (n - 1)) none ∧ Unt B.σ B'.σ L
  | 0, _, _, _, _, _, _, h0, _ => by omega
  | n + 1, B, d, p, k, R, hn, _, hL => by
    have ha := (R.inv.hole k p).1 rfl
    rw [giveN_succ]
    by_cases hb : k = d.O ∨ bud k p ∉ d.free k
    · obtain ⟨t1, R1, u1⟩ := R.turnEnter hb
      rw [if_pos t1]
      refine ⟨_, rfl, ?_, u1.mono fun q hq => ⟨by rw [hL q hq]; simp, fun e => ?_⟩⟩
      · have : d.up k p (n + 1 - 1) = d.freed k p := by
          cases n with
          | zero => rfl
          | succ m =>
            show D.up d k p (m + 1) = _
            unfold D.up
            rw [if_neg (hb.resolve_left (by omega))]
        rw [this]; exact R1
      · have := hL q hq
        rw [e, ha.2.1] at this; cases this
    · have hkO : k < d.O := by
        refine Classical.byContradiction fun h => hb (.inl ?_)
        have := R.le_O ha; omega
      have hbf : bud k p ∈ d.free k := Classical.not_not.1 fun h => hb (.inr h)
      obtain ⟨t1, t2, R1, u1, hmin⟩ := R.turnDrop hkO hbf
      rw [if_neg (by rw [t1]; simp), if_neg (by rw [t2]; simp), hmin]
      have hbu := (R.inv.free k _).1 hbf
      obtain ⟨B', e1, R2, u2⟩ := Rep.giveN (L := L) n R1 (by show k + 1 + n = d.O + 1; omega) (by omega) (fun q hq => by
        have h1 := hL q hq
        have hcq : (d.merge k p).c q = paint d.c (low k p) (k + 1) (2, k + 1) q := rfl
        rw [hcq]
        unfold paint
        rw [if_neg (fun e => ?_)]
        · exact h1
        · obtain ⟨f1, f2, f3, f4, f5, f6, f7, f8⟩ := bud_facts ha.2.2
          rw [f7] at e
          rcases (f5 q).1 e with x | x
          · have := R.inv.cov.block p q ha.1 (by rw [ha.2.1]; exact x)
            rw [this, ha.2.1] at h1; cases h1
          · have := R.inv.cov.block (bud k p) q hbu.1 (by rw [hbu.2.1]; exact x)
            rw [this, hbu.2.1] at h1; cases h1)
      refine ⟨B', e1, ?_, u1.trans u2 fun q hq => ⟨by rw [hL q hq]; simp, hq⟩⟩
      obtain ⟨m, rfl⟩ : ∃ m, n = m + 1 := ⟨n - 1, by omega⟩
      have : d.up k p (m + 1 + 1 - 1) = (d.merge k p).up (k + 1) (low k p) (m + 1 - 1) := by
        show D.up d k p (m + 1) = D.up (d.merge k p) (k + 1) (low k p) m
        conv => lhs; unfold D.up
        rw [if_pos hbf]
      rw [this]; exact R2

/-- Giving a block back. -/
theorem Rep.give (R : Rep S B d none) {p k : Nat} (hp : (p, k) ∈ d.live) (hS : ¬ S p) :
    ∃ B', B.give (B.σ.ad p) k = (B', 0) ∧ Rep S B' (d.give k p) none ∧ Unt B.σ B'.σ (fun q => (d.c q).1 = 1 ∧ q / 2 ^ k ≠ p / 2 ^ k) := by
  have ha := (R.inv.live k p).1 hp
  have hk := R.le_O ha
  have hO := R.ord
  unfold BS.give
  rw [R.isLive hp hS]
  simp only [Int.toNat_natCast]
  obtain ⟨B', e1, R1, u1⟩ := Rep.giveN (L := fun q => (d.c q).1 = 1 ∧ q / 2 ^ k ≠ p / 2 ^ k) (B.σ.order + 1 - k) (R.unlive hp hS) (by show k + (B.σ.order + 1 - k) = d.O + 1; omega) (by omega) (fun q hq => by
    have hcq : (d.unlive k p).c q = paint d.c p k (2, k) q := rfl
    rw [hcq]; unfold paint; rw [if_neg hq.2]; exact hq.1)
  refine ⟨B', e1, ?_, u1⟩
  have : B.σ.order + 1 - k - 1 = d.O - k := by omega
  rw [this] at R1
  exact R1

theorem Rep.give_none (R : Rep S B d none) {a : Nat} {y : Int} (hn : ∀ p k : Nat, a = B.σ.ad p → y = k → (p, k) ∈ d.live → S p) : B.give a y = (B, 1) := by
  unfold BS.give; rw [R.notLive hn]

/-- Cutting a live block. -/
theorem Rep.shrink (R : Rep S B d none) {p k to : Nat} (hp : (p, k) ∈ d.live) (hS : ¬ S p) (hle : to ≤ k) :
    ∃ B', B.shrink (B.σ.ad p) k to = (B', 0) ∧ Rep S B' (d.shrink p k to) none ∧ Unt B.σ B'.σ (fun q => (d.c q).1 = 1 ∧ ¬ (p + 2 ^ to ≤ q ∧ q < p + 2 ^ k)) := by
  obtain ⟨R1, u1⟩ := (R.unlive hp hS).cut hle
  refine ⟨B.cut p k to, ?_, R1, u1.mono fun q hq => ⟨?_, hq.2⟩⟩
  · unfold BS.shrink
    rw [R.isLive hp hS]
    simp only
    unfold BS.shrinkQ
    rw [if_pos ⟨by omega, by omega⟩]
    rfl
  · have hcq : (d.unlive k p).c q = paint d.c p k (2, k) q := rfl
    rw [hcq]; unfold paint
    split
    · simp
    · rw [hq.1]; simp

theorem Rep.shrink_none (R : Rep S B d none) {a : Nat} {y z : Int} (hn : ∀ p k : Nat, a = B.σ.ad p → y = k → (p, k) ∈ d.live → ¬ S p → ¬ (0 ≤ z ∧ z ≤ y)) : B.shrink a y z = (B, 1) := by
  unfold BS.shrink
  cases hl : B.isLive a y with
  | none => rfl
  | some q =>
    simp only
    unfold BS.shrinkQ
    refine if_neg fun hz => ?_
    refine Classical.byContradiction fun _ => ?_
    have : B.isLive a y = none ∨ ∃ p k : Nat, a = B.σ.ad p ∧ y = k ∧ (p, k) ∈ d.live ∧ ¬ S p := by
      refine Classical.byContradiction fun h => h (.inl (R.notLive fun p k h1 h2 h3 => ?_))
      exact Classical.byContradiction fun hS => h (.inr ⟨p, k, h1, h2, h3, hS⟩)
    rcases this with h | ⟨p, k, h1, h2, h3, h4⟩
    · rw [hl] at h; cases h
    · exact hn p k h1 h2 h3 h4 hz

end

end Go.Proofs.Ytdmfnlcbfmahhaa
