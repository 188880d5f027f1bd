/- Regions that come and go; the buddy as blocks of pages, its contracts. -/
import Derived.Test.YtdmfnlcbfmahhaaRepB
namespace Go.Proofs.Ytdmfnlcbfmahhaa
open Go Hl Bd
set_option maxRecDepth 100000

theorem seg_same2 {σ σ' : Sp} (hb : σ'.base = σ.base) : ∀ {l : List Nat} {pv nx : Nat}, (∀ p ∈ l, Same σ σ' p) → seg σ pv l nx → seg σ' pv l nx
  | [], _, _, _, _ => trivial
  | p :: t, pv, nx, hl, hs => by
    have hp := hl p List.mem_cons_self
    refine ⟨by rw [hp.nx hb, hdA_eq hb]; exact hs.1, by rw [hp.pv hb]; exact hs.2.1, ?_⟩
    rw [ad_eq hb]
    exact seg_same2 hb (fun q hq => hl q (List.mem_cons_of_mem _ hq)) hs.2.2

section
variable {S : Nat → Prop} {B : BS} {d : D} {h : Option (Nat × Nat)}

/-- The memory is other, not where free blocks bear their links. -/
theorem Rep.other (R : Rep S B d h) {σ : Sp} (ok : σ.Ok) (hb : σ.base = B.σ.base) (ho : σ.order = B.σ.order) (hm : d.pages ≤ σ.n * 2 ^ σ.order) (hs : ∀ q, q < d.pages → (d.c q).1 = 0 → Same B.σ σ q) :
    Rep S ⟨σ, B.μ, B.heads⟩ d h := by
  have hf : ∀ k q, q ∈ d.free k → Same B.σ σ q := fun k q hq => hs q (R.free_lt hq) (by rw [((R.inv.free k q).1 hq).2.1])
  refine ⟨⟨R.ok.order.trans ho.symm, fun k hk => R.ok.heads k (by have hk : k ≤ σ.order := hk; omega)⟩, ok, R.mok, R.inv, R.ord.trans ho.symm, R.n, hm, fun k hk => ?_, fun k hk => ?_, R.pages, R.slab, R.bits⟩
  · rw [hdA_eq hb]; exact R.heads k hk
  · exact seg_same2 hb (fun q hq => hf k q hq) (R.links k hk)

theorem Rep.unt (R : Rep S B d h) {σ : Sp} (ok : σ.Ok) (hu : Unt B.σ σ (fun q => (d.c q).1 = 0)) : Rep S ⟨σ, B.μ, B.heads⟩ d h :=
  R.other ok hu.base hu.order (by rw [hu.n, hu.order]; exact R.mem) fun q _ hc => hu.same q hc

theorem size_pages {σ : Sp} : σ.size * σ.n = 4096 * (σ.n * 2 ^ σ.order) := by unfold Sp.size; rw [Nat.mul_comm σ.n, Nat.mul_assoc]

theorem Rep.commit (R : Rep S B d h) (hn : B.σ.n < B.σ.limit) : Rep S ⟨B.σ.grown, B.μ, B.heads⟩ d h := by
  refine R.other (R.sok.grown hn) rfl rfl ?_ fun q hq _ x hx => ?_
  · have := R.mem
    show d.pages ≤ (B.σ.n + 1) * 2 ^ B.σ.order
    rw [Nat.add_mul]; omega
  · show (if 4096 * q + x < B.σ.size * B.σ.n then B.σ.mem (4096 * q + x) else 0) = _
    rw [if_pos]
    have := R.mem
    rw [size_pages]
    have : 4096 * (q + 1) ≤ 4096 * (B.σ.n * 2 ^ B.σ.order) := Nat.mul_le_mul_left _ (by omega)
    omega

theorem Bits.come {f : Nat → Nat → Bool} {O n : Nat} {free : Nat → List Nat} (hb : Bits f O n free) (hw : n % 2 ^ O = 0) (hlt : ∀ k p, p ∈ free k → p < n) :
    Bits (fun k i => f k i && decide (i < n / 2 ^ (k + 1))) O (n + 2 ^ O) free := by
  intro k i hk hi
  by_cases hin : i < n / 2 ^ (k + 1)
  · simp only [hin, decide_true, Bool.and_true]
    exact hb k i hk hin
  · simp only [hin, decide_false, Bool.and_false]
    have hwk : n % 2 ^ (k + 1) = 0 := mod_mono hw hk
    have h2 := Bd.pow_pos (k + 1)
    have hge : n ≤ i * 2 ^ (k + 1) := by
      have h1 := Nat.div_add_mod n (2 ^ (k + 1))
      have h3 : n / 2 ^ (k + 1) * 2 ^ (k + 1) ≤ i * 2 ^ (k + 1) := Nat.mul_le_mul_right _ (by omega)
      rw [Nat.mul_comm] at h1; omega
    have a : i * 2 ^ (k + 1) ∉ free k := fun hm => by have := hlt k _ hm; omega
    have b : i * 2 ^ (k + 1) + 2 ^ k ∉ free k := fun hm => by have := hlt k _ hm; omega
    simp [a, b]

theorem grown_ok {μ : Mp} (ok : μ.Ok) (hn : μ.n + 2 ^ μ.order ≤ 1024) : μ.grown.Ok := by
  refine ⟨ok.order, hn, ?_, fun i hi => ?_⟩
  · show (μ.n + 2 ^ μ.order) % 2 ^ μ.order = 0
    rw [Nat.add_mod_right]; exact ok.whole
  · show FitPg μ.order (if μ.n ≤ i ∧ i < μ.n + 2 ^ μ.order then plainPg (if i = μ.n then 2 else 2 + 1) μ.order else if i < μ.n then μ.pages i else pg0)
    split
    · apply FitPg.plain
      · split <;> omega
      · split <;> omega
      · omega
      · omega
    · split
      · rename_i hi; exact ok.fits i hi
      · exact FitPg.zero

theorem Rep.come (R : Rep S B d none) (hn : d.pages + 2 ^ d.O ≤ 1024) (hm : d.pages + 2 ^ d.O ≤ B.σ.n * 2 ^ B.σ.order) : Rep S ⟨B.σ, B.μ.grown, B.heads⟩ d.come none := by
  have hO := R.ord
  have hmO : B.μ.order = d.O := by rw [R.ok.order, hO]
  have hw := R.whole
  have hlt : ∀ k p, p ∈ d.free k → p < d.pages := fun k p hp => R.free_lt hp
  have hnn : B.μ.n = d.pages := R.n
  refine ⟨⟨R.ok.order, R.ok.heads⟩, R.sok, grown_ok R.mok (by rw [hmO, hnn]; exact hn), R.inv.come, hO, ?_, hm, R.heads, R.links, fun q hq hc hS => ?_, fun q hS => ?_, ?_⟩
  · show B.μ.n + 2 ^ B.μ.order = d.pages + 2 ^ d.O
    rw [hmO, hnn]
  · have hcq : d.come.c q = paint d.c d.pages d.O (1, d.O) q := rfl
    rw [hcq] at hc ⊢
    show (if B.μ.n ≤ q ∧ q < B.μ.n + 2 ^ B.μ.order then plainPg (if q = B.μ.n then 2 else 2 + 1) B.μ.order else if q < B.μ.n then B.μ.pages q else pg0) = _
    rw [hmO, hnn]
    have hq : q < d.pages + 2 ^ d.O := hq
    by_cases hql : q < d.pages
    · have hno : ¬ q / 2 ^ d.O = d.pages / 2 ^ d.O := fun e => by have := (in_block hw).1 e; omega
      unfold paint at hc ⊢
      rw [if_neg hno] at hc ⊢
      rw [if_neg (by omega), if_pos hql]
      exact R.pages q hql hc hS
    · unfold paint
      rw [if_pos ⟨by omega, hq⟩, if_pos ((in_block hw).2 ⟨by omega, hq⟩)]
      unfold pgOf
      by_cases hqe : q = d.pages
      · subst hqe; rw [if_pos rfl]; simp only [hw, if_true]; rfl
      · have : ¬ q % 2 ^ d.O = 0 := fun e => hqe (Bd.start_eq ((in_block hw).2 ⟨by omega, hq⟩) hw e)
        rw [if_neg hqe]; simp only [this, if_false]; rfl
  · obtain ⟨g1, g2⟩ := R.slab q hS
    have hql := g1.1
    have hno : ¬ q / 2 ^ d.O = d.pages / 2 ^ d.O := fun e => by have := (in_block hw).1 e; omega
    refine ⟨⟨by show q < d.pages + 2 ^ d.O; omega, by show paint d.c d.pages d.O (1, d.O) q = _; unfold paint; rw [if_neg hno]; exact g1.2.1, g1.2.2⟩, ?_⟩
    show Pg.kind (if B.μ.n ≤ q ∧ q < B.μ.n + 2 ^ B.μ.order then plainPg (if q = B.μ.n then 2 else 2 + 1) B.μ.order else if q < B.μ.n then B.μ.pages q else pg0) = 4
    rw [if_neg (by omega), if_pos (by omega)]; exact g2
  · have := Bits.come R.bits hw hlt
    show Bits (fun k i => B.μ.pairs k i && decide (i < B.μ.n / 2 ^ (k + 1))) d.O (d.pages + 2 ^ d.O) d.free
    rw [hnn]; exact this

theorem Rep.goes (R : Rep S B d none) (hsync : d.pages = B.σ.n * 2 ^ B.σ.order) (hl : (d.top, d.O) ∈ d.live) (hS : ¬ S d.top) : Rep S ⟨B.σ.less 1, B.μ.less 1, B.heads⟩ d.go none := by
  have hO := R.ord
  have hmO : B.μ.order = d.O := by rw [R.ok.order, hO]
  have hnn : B.μ.n = d.pages := R.n
  have ha := (R.inv.live _ _).1 hl
  have hw := R.whole
  have hp0 := Bd.pow_pos d.O
  have hge : 2 ^ d.O ≤ d.pages := by
    have := ha.1
    exact Nat.le_of_dvd (by omega) (Nat.dvd_of_mod_eq_zero hw)
  have hn1 : 0 < B.σ.n := by
    rcases Nat.eq_zero_or_pos B.σ.n with h0 | h0
    · rw [h0, Nat.zero_mul] at hsync; omega
    · exact h0
  have htop : d.top = d.pages - 2 ^ d.O := rfl
  have hmul : (B.σ.n - 1) * 2 ^ B.σ.order = d.top := by rw [Nat.sub_mul, Nat.one_mul, ← hsync, htop, hO]
  have hσok : (B.σ.less 1).Ok := ⟨R.sok.base, R.sok.order, by show B.σ.n - 1 ≤ B.σ.limit; have := R.sok.n; omega, R.sok.limit, R.sok.top, R.sok.mem, R.sok.align⟩
  have hfree : ∀ k p, p ∈ d.free k → p < d.top := fun k p hp => by
    refine Classical.byContradiction fun hn => ?_
    have h1 := (R.inv.free k p).1 hp
    have := R.inv.cov.block d.top p ha.1 (by rw [ha.2.1]; exact (in_block ha.2.2).2 ⟨by omega, by have := h1.1; omega⟩)
    rw [h1.2.1, ha.2.1] at this; cases this
  refine ⟨⟨R.ok.order, R.ok.heads⟩, hσok, R.mok.less ?_, R.inv.go hl, hO, ?_, ?_, fun k hk => ?_, fun k hk => ?_, fun q hq hc hSq => ?_, fun q hSq => ?_, ?_⟩
  · rw [hmO, hnn]
    exact (Nat.le_div_iff_mul_le hp0).2 (by omega)
  · show B.μ.n - 1 * 2 ^ B.μ.order = d.top
    rw [hmO, hnn, htop, Nat.one_mul]
  · show d.top ≤ (B.σ.n - 1) * 2 ^ B.σ.order
    omega
  · exact R.heads k hk
  · show seg (B.σ.less 1) 0 (d.free k) 0
    exact seg_same2 (σ := B.σ) (σ' := B.σ.less 1) rfl (fun _ _ _ _ => rfl) (R.links k hk)
  · exact R.pages q (by have hq : q < d.top := hq; omega) hc hSq
  · obtain ⟨g1, g2⟩ := R.slab q hSq
    refine ⟨⟨?_, g1.2.1, g1.2.2⟩, g2⟩
    refine Classical.byContradiction fun hn => ?_
    have hn : ¬ q < d.top := hn
    have := R.inv.cov.block d.top q ha.1 (by rw [ha.2.1]; exact (in_block ha.2.2).2 ⟨by omega, by have := g1.1; omega⟩)
    rw [g1.2.1, ha.2.1] at this
    injection this with _ h2
    have : 2 ^ d.O = 1 := by rw [← h2]
    exact hS (by have : q = d.top := by have := g1.1; omega
                 rw [← this]; exact hSq)
  · show Bits (fun k i => B.μ.pairs k i && decide (i < B.μ.n / 2 ^ (k + 1))) d.O d.top d.free
    intro k i hk hi
    have : i < d.pages / 2 ^ (k + 1) := Nat.lt_of_lt_of_le hi (Nat.div_le_div_right (by omega))
    simp only [hnn, this, decide_true, Bool.and_true]
    exact R.bits k i hk this

/-! ## The topmost region -/

/-- Space and map hold the same regions. -/
def synced (σ : Sp) (d : D) : Prop := d.pages = σ.n * 2 ^ σ.order

theorem Rep.topped (R : Rep S B d h) : B.topped ↔ synced B.σ d ∧ 0 < d.pages := by
  have hn := R.n
  unfold BS.topped synced
  constructor
  · rintro ⟨h1, h2⟩
    refine ⟨by omega, ?_⟩
    have := Nat.mul_pos h1 (Bd.pow_pos B.σ.order)
    omega
  · rintro ⟨h1, h2⟩
    refine ⟨?_, by omega⟩
    rcases Nat.eq_zero_or_pos B.σ.n with h0 | h0
    · rw [h0, Nat.zero_mul] at h1; omega
    · exact h0

theorem Rep.topPage (R : Rep S B d h) (hs : synced B.σ d) : B.topPage = d.top := by
  unfold BS.topPage D.top
  rw [← hs, R.ord]

theorem Rep.top_lt (R : Rep S B d h) (hp : 0 < d.pages) : d.top < d.pages ∧ d.top % 2 ^ d.O = 0 ∧ d.top + 2 ^ d.O = d.pages := by
  have hw := R.whole
  have h2 := Bd.pow_pos d.O
  have hge : 2 ^ d.O ≤ d.pages := Nat.le_of_dvd hp (Nat.dvd_of_mod_eq_zero hw)
  unfold D.top
  refine ⟨by omega, ?_, by omega⟩
  rw [← Nat.mod_eq_sub_mod hge]; exact hw

theorem Rep.feed (R : Rep S B d none) (hs : synced B.σ d) (hp : 0 < d.pages) (hl : (d.top, d.O) ∈ d.live) (hS : ¬ S d.top) :
    ∃ B', B.feed = (B', 0) ∧ Rep S B' (d.give d.O d.top) none ∧ Unt B.σ B'.σ (fun q => (d.c q).1 = 1 ∧ q / 2 ^ d.O ≠ d.top / 2 ^ d.O) := by
  obtain ⟨B', e1, R1, u1⟩ := R.give hl hS
  refine ⟨B', ?_, R1, u1⟩
  unfold BS.feed
  rw [if_pos (R.topped.2 ⟨hs, hp⟩), R.topPage hs]
  have e2 : B.give (B.adr d.top) (B.σ.order : Int) = (B', 0) := by rw [← R.ord]; exact e1
  rw [e2]
  rfl

theorem Rep.feed_none (R : Rep S B d none) (hn : synced B.σ d → 0 < d.pages → (d.top, d.O) ∈ d.live → S d.top) : B.feed = (B, 9) := by
  unfold BS.feed
  split
  · rename_i ht
    obtain ⟨hs, hp⟩ := R.topped.1 ht
    have : B.give (B.adr B.topPage) (B.σ.order : Int) = (B, 1) := by
      refine R.give_none fun p k h1 h2 h3 => ?_
      rw [R.topPage hs] at h1
      have hpt : p = d.top := (ad_inj (σ := B.σ) h1).symm
      have hk : k = d.O := by have := R.ord; omega
      subst hpt hk
      exact hn hs hp h3
    rw [this]; rfl
  · rfl

theorem Rep.free_page (R : Rep S B d none) {p k : Nat} (hp : p < d.pages) (hm : p % 2 ^ k = 0) : (Pg.kind (B.μ.pages p) = 0 ∧ Pg.order (B.μ.pages p) = (k : Int)) ↔ p ∈ d.free k := by
  constructor
  · rintro ⟨h1, h2⟩
    have hS : ¬ S p := fun hS => by rw [(R.slab p hS).2] at h1; cases h1
    have hnh : (d.c p).1 ≠ 2 := fun h2 => by
      have hk := R.inv.cov.le p hp
      have h3 := R.inv.cov.block p (p / 2 ^ (d.c p).2 * 2 ^ (d.c p).2) hp (by rw [Nat.mul_div_cancel _ (Bd.pow_pos _)])
      refine R.inv.nohole (p := p / 2 ^ (d.c p).2 * 2 ^ (d.c p).2) (k := (d.c p).2) ⟨?_, ?_, Nat.mul_mod_left _ _⟩
      · exact block_lt R.whole hk hp (by rw [Nat.mul_div_cancel _ (Bd.pow_pos _)])
      · rw [h3, ← h2]
    have hpg := R.pages p hp hnh hS
    rw [hpg] at h1 h2
    have e1 : ((2 * (d.c p).1 + (if p % 2 ^ (d.c p).2 = 0 then 0 else 1) : Nat) : Int) = 0 := h1
    have e2 : ((d.c p).2 : Int) = k := h2
    refine (R.inv.free k p).2 ⟨hp, ?_, hm⟩
    have a : (d.c p).1 = 0 := by omega
    have b : (d.c p).2 = k := by omega
    rw [← a, ← b]
  · intro hf
    have ha := (R.inv.free k p).1 hf
    have hS : ¬ S p := fun hS => by have := (R.slab p hS).1.2.1; rw [ha.2.1] at this; cases this
    have hpg := R.pages p hp (by rw [ha.2.1]; simp) hS
    rw [hpg, ha.2.1]
    refine ⟨?_, rfl⟩
    unfold pgOf
    simp only [hm, if_true]
    rfl

theorem Rep.pull (R : Rep S B d none) (hs : synced B.σ d) (hp : 0 < d.pages) (hf : d.top ∈ d.free d.O) :
    ∃ B', B.pull = (B', 0) ∧ Rep S B' d.pull none ∧ Unt B.σ B'.σ (fun q => (d.c q).1 ≠ 0) := by
  obtain ⟨t1, t2, t3⟩ := R.top_lt hp
  obtain ⟨h0, R1, u1⟩ := R.popTurn hf
  have hO := R.ord
  have hdo : (B.drop d.O d.top).σ.order = B.σ.order := drop_order
  have ht : (B.drop d.O d.top).turn d.top d.O = (B.drop d.O d.top, true) := by unfold BS.turn; rw [if_pos (by rw [hdo]; exact hO)]
  rw [ht] at R1 u1
  have R2 := R1.runLive
  refine ⟨_, ?_, R2, u1⟩
  unfold BS.pull
  have hk := (R.free_page t1 t2).2 hf
  rw [if_pos ⟨R.topped.2 ⟨hs, hp⟩, by rw [R.topPage hs]; exact hk.1, by rw [R.topPage hs, ← hO]; exact hk.2⟩, R.topPage hs, ← hO, if_neg (by rw [h0]; simp)]
  rfl

theorem Rep.pull_none (R : Rep S B d none) (hn : synced B.σ d → 0 < d.pages → d.top ∉ d.free d.O) : B.pull = (B, 9) := by
  unfold BS.pull
  refine if_neg fun hc => ?_
  obtain ⟨hs, hp⟩ := R.topped.1 hc.1
  obtain ⟨t1, t2, t3⟩ := R.top_lt hp
  rw [R.topPage hs, ← R.ord] at hc
  exact hn hs hp ((R.free_page t1 t2).1 hc.2)
end

theorem Rep.fresh {σ : Sp} (ok : σ.Ok) : Rep (fun _ => False) ⟨σ, ⟨σ.order, 0, fun _ => pg0, fun _ _ => false⟩, fun _ => 0⟩ (D.new σ.order) none := by
  refine ⟨⟨rfl, fun _ _ => by show 0 < _; omega⟩, ok, ⟨ok.order, Nat.zero_le _, Nat.zero_mod _, fun i hi => absurd hi (Nat.not_lt_zero i)⟩, Inv.new σ.order, rfl, rfl, Nat.zero_le _, fun _ _ => rfl, fun _ _ => trivial, fun p hp => absurd hp (Nat.not_lt_zero p), fun p hp => hp.elim, fun k i _ hi => ?_⟩
  have hi : i < 0 / 2 ^ (k + 1) := hi
  rw [Nat.zero_div] at hi; omega

end Go.Proofs.Ytdmfnlcbfmahhaa
