/- The book and the blocks: what a deed does to the one, and to the other. -/
import Derived.Test.YtdmfnlcbfmahhaaBookC
import Derived.Test.YtdmfnlcbfmahhaaBe
namespace Go.Proofs.Ytdmfnlcbfmahhaa
open Go Hl Bd
set_option maxRecDepth 100000

variable {σ σ' : Sp} {d : D} {L : List Bl}

abbrev pr (v : Bl) : Nat × Nat := (v.1, v.2.1)

structure Booked (σ : Sp) (d : D) (L : List Bl) : Prop where
  inv : Inv d none
  sync : synced σ d
  live : L.map pr = d.live
  marks : ∀ v ∈ L, v.2.2 < 256

/-- Whatever is live still has its bytes. -/
def Kept (σ σ' : Sp) (L L' : List Bl) : Prop :=
  (∃ v, L' = L ++ [v] ∧ ∀ u ∈ L, ∀ q, u.1 ≤ q → q < u.1 + 2 ^ u.2.1 → Same σ σ' q) ∨
  (L'.length ≤ L.length ∧ ∀ v ∈ L', ∃ u ∈ L, v.1 = u.1 ∧ v.2.2 = u.2.2 ∧ v.2.1 ≤ u.2.1 ∧ ∀ q, v.1 ≤ q → q < v.1 + 2 ^ v.2.1 → Same σ σ' q)

theorem Kept.all (h : ∀ u ∈ L, ∀ q, u.1 ≤ q → q < u.1 + 2 ^ u.2.1 → Same σ σ' q) : Kept σ σ' L L :=
  .inr ⟨Nat.le_refl _, fun v hv => ⟨v, hv, rfl, rfl, Nat.le_refl _, h v hv⟩⟩

theorem Kept.refl : Kept σ σ L L := Kept.all fun _ _ _ _ _ _ _ => rfl

theorem Booked.mem (B : Booked σ d L) {v : Bl} (hv : v ∈ L) : pr v ∈ d.live := by rw [← B.live]; exact List.mem_map_of_mem hv

theorem Booked.color (B : Booked σ d L) {v : Bl} (hv : v ∈ L) {q : Nat} (h1 : v.1 ≤ q) (h2 : q < v.1 + 2 ^ v.2.1) : d.c q = (1, v.2.1) ∧ q < d.pages := live_color B.inv (B.mem hv) h1 h2

theorem Booked.ok (B : Booked σ d L) (hO : d.O ≤ 8) (hp : d.pages ≤ 100000) (hl : L.length ≤ 100000) : BookOk L := by
  refine ⟨fun v hv => ?_, fun v hv => ?_, hl⟩
  · have := ((B.inv.live _ _).1 (B.mem hv)).1
    omega
  · have a := (B.inv.live _ _).1 (B.mem hv)
    have := B.inv.cov.le _ a.1
    rw [a.2.1] at this
    have : v.2.1 ≤ d.O := this
    omega

theorem Booked.hits (B : Booked σ d L) {p k : Nat} : hits L p k ↔ Bd.meets d.live p k := by
  unfold Go.Proofs.Ytdmfnlcbfmahhaa.hits Bd.meets
  rw [← B.live]
  constructor
  · rintro ⟨v, hv, h⟩; exact ⟨pr v, List.mem_map_of_mem hv, h⟩
  · rintro ⟨x, hx, h⟩
    obtain ⟨v, hv, rfl⟩ := List.mem_map.1 hx
    exact ⟨v, hv, h⟩

theorem Booked.take (B : Booked σ d L) {p k j mk : Nat} (hi : Inv ((d.pop j p).cut p j k) none) (u : Unt σ σ' fun q => (d.c q).1 = 1) (hm : mk < 256) :
    Booked σ' ((d.pop j p).cut p j k) (L ++ [(p, k, mk)]) ∧ Kept σ σ' L (L ++ [(p, k, mk)]) := by
  obtain ⟨e1, e2, e3⟩ := take_same (d := d) (j := j) (p := p) (k := k)
  refine ⟨⟨hi, ?_, ?_, ?_⟩, .inl ⟨_, rfl, fun v hv q h1 h2 => u.same q ?_⟩⟩
  · have := B.sync
    unfold synced at *
    rw [e2, u.n, u.order]; exact this
  · rw [List.map_append, B.live, e1]; rfl
  · intro v hv
    rcases List.mem_append.1 hv with h | h
    · exact B.marks v h
    · rw [List.mem_singleton.1 h]; exact hm
  · rw [(B.color hv h1 h2).1]

theorem Booked.apart (B : Booked σ d L) {i : Nat} (hi : i < L.length) {v : Bl} (hv : v ∈ L.eraseIdx i) : v ∈ L ∧ v.1 ≠ L[i].1 ∧ ∀ q, v.1 ≤ q → q < v.1 + 2 ^ v.2.1 → ¬ (L[i].1 ≤ q ∧ q < L[i].1 + 2 ^ L[i].2.1) := by
  have hvL : v ∈ L := List.mem_of_mem_eraseIdx hv
  have hn : ((L.map pr).map (·.1)).Nodup := by rw [B.live]; exact fst_nodup B.inv
  have hne : v.1 ≠ L[i].1 := by
    have h : pr v ∈ (L.eraseIdx i).map pr := List.mem_map_of_mem hv
    rw [filter_erase pr L i hi hn, List.mem_filter] at h
    simpa using h.2
  refine ⟨hvL, hne, fun q h1 h2 h3 => hne ?_⟩
  exact (live_disj B.inv (B.mem (List.getElem_mem hi)) (B.mem hvL) h3.1 h3.2 h1 h2).1

theorem Booked.erase (B : Booked σ d L) {i : Nat} (hi : i < L.length) : (L.eraseIdx i).map pr = d.live.filter (·.1 ≠ L[i].1) := by
  have hn : ((L.map pr).map (·.1)).Nodup := by rw [B.live]; exact fst_nodup B.inv
  rw [filter_erase pr L i hi hn, B.live]

theorem Booked.give (B : Booked σ d L) {i : Nat} (hi : i < L.length) (hinv : Inv (d.give L[i].2.1 L[i].1) none) (u : Unt σ σ' fun q => (d.c q).1 = 1 ∧ q / 2 ^ L[i].2.1 ≠ L[i].1 / 2 ^ L[i].2.1) :
    Booked σ' (d.give L[i].2.1 L[i].1) (L.eraseIdx i) ∧ Kept σ σ' L (L.eraseIdx i) := by
  obtain ⟨e1, e2, e3⟩ := give_same (d := d) (k := L[i].2.1) (p := L[i].1)
  refine ⟨⟨hinv, ?_, ?_, ?_⟩, .inr ⟨List.length_eraseIdx_le _ _, fun v hv => ?_⟩⟩
  · have := B.sync
    unfold synced at *
    rw [e2, u.n, u.order]; exact this
  · rw [B.erase hi, e1]
  · intro v hv; exact B.marks v (List.mem_of_mem_eraseIdx hv)
  · obtain ⟨a, _, b⟩ := B.apart hi hv
    refine ⟨v, a, rfl, rfl, Nat.le_refl _, fun q h1 h2 => u.same q ⟨by rw [(B.color a h1 h2).1], fun hb => ?_⟩⟩
    have m := ((B.inv.live _ _).1 (B.mem (List.getElem_mem hi))).2.2
    exact b q h1 h2 ((in_block m).1 hb)

theorem Booked.shrink (B : Booked σ d L) {i t : Nat} (hi : i < L.length) (ht : t ≤ L[i].2.1) (hinv : Inv (d.shrink L[i].1 L[i].2.1 t) none)
    (u : Unt σ σ' fun q => (d.c q).1 = 1 ∧ ¬ (L[i].1 + 2 ^ t ≤ q ∧ q < L[i].1 + 2 ^ L[i].2.1)) :
    Booked σ' (d.shrink L[i].1 L[i].2.1 t) (L.eraseIdx i ++ [(L[i].1, t, L[i].2.2)]) ∧ Kept σ σ' L (L.eraseIdx i ++ [(L[i].1, t, L[i].2.2)]) := by
  obtain ⟨e1, e2, e3⟩ := shrink_same (d := d) (p := L[i].1) (fr := L[i].2.1) (to := t)
  refine ⟨⟨hinv, ?_, ?_, ?_⟩, .inr ⟨?_, fun v hv => ?_⟩⟩
  · have := B.sync
    unfold synced at *
    rw [e2, u.n, u.order]; exact this
  · rw [List.map_append, B.erase hi, e1]; rfl
  · intro v hv
    rcases List.mem_append.1 hv with h | h
    · exact B.marks v (List.mem_of_mem_eraseIdx h)
    · rw [List.mem_singleton.1 h]; show L[i].2.2 < 256; exact B.marks _ (List.getElem_mem hi)
  · rw [List.length_append, List.length_eraseIdx_of_lt hi, List.length_singleton]; omega
  · rcases List.mem_append.1 hv with h | h
    · obtain ⟨a, _, b⟩ := B.apart hi h
      refine ⟨v, a, rfl, rfl, Nat.le_refl _, fun q h1 h2 => u.same q ⟨by rw [(B.color a h1 h2).1], fun hb => ?_⟩⟩
      exact b q h1 h2 ⟨Nat.le_trans (Nat.le_add_right _ _) hb.1, hb.2⟩
    · rw [List.mem_singleton.1 h]
      refine ⟨L[i], List.getElem_mem hi, rfl, rfl, ht, fun q h1 h2 => u.same q ⟨?_, fun hb => ?_⟩⟩
      · have hpw : 2 ^ t ≤ 2 ^ L[i].2.1 := Nat.pow_le_pow_right (by omega) ht
        have h2 : q < L[i].1 + 2 ^ t := h2
        rw [(B.color (List.getElem_mem hi) h1 (by omega)).1]
      · have h2 : q < L[i].1 + 2 ^ t := h2
        omega

theorem Booked.come (B : Booked σ d L) (ho : d.O = σ.order) (hinv : Inv (d.come.give d.O d.pages) none) (u : Unt σ.grown σ' fun q => (d.come.c q).1 = 1 ∧ q / 2 ^ d.O ≠ d.pages / 2 ^ d.O) :
    Booked σ' (d.come.give d.O d.pages) L ∧ Kept σ σ' L L := by
  obtain ⟨e1, e2, e3⟩ := give_same (d := d.come) (k := d.O) (p := d.pages)
  have hw := B.inv.cov.whole
  have hs := B.sync
  refine ⟨⟨hinv, ?_, ?_, B.marks⟩, .all fun v hv q h1 h2 => ?_⟩
  · unfold synced at *
    rw [e2, u.n, u.order]
    show d.pages + 2 ^ d.O = (σ.n + 1) * 2 ^ σ.order
    rw [Nat.succ_mul, hs, ho]
  · rw [e1, B.live]
    show d.live = (d.live ++ [(d.pages, d.O)]).filter (·.1 ≠ d.pages)
    rw [List.filter_append, List.filter_cons_of_neg (by simp), List.filter_nil, List.append_nil, List.filter_eq_self.2]
    intro x hx
    have := ((B.inv.live _ _).1 (show (x.1, x.2) ∈ d.live from hx)).1
    simp; omega
  · obtain ⟨c1, c2⟩ := B.color hv h1 h2
    have hne : q / 2 ^ d.O ≠ d.pages / 2 ^ d.O := fun e => by have := (in_block hw).1 e; omega
    have hc : (d.come.c q).1 = 1 := by
      show (paint d.c d.pages d.O (1, d.O) q).1 = 1
      unfold paint
      rw [if_neg hne, c1]
    intro x hx
    rw [u.same q ⟨hc, hne⟩ x hx]
    show (if 4096 * q + x < σ.size * σ.n then σ.mem (4096 * q + x) else 0) = _
    rw [if_pos]
    rw [size_pages]
    unfold synced at hs
    omega

theorem Booked.gone (B : Booked σ d L) (ho : d.O = σ.order) (hinv : Inv d.pull.go none) (h0 : 0 < d.pages) (hf : d.top ∈ d.free d.O) (u : Unt σ σ' fun q => (d.c q).1 ≠ 0) :
    Booked (σ'.less 1) d.pull.go L ∧ Kept σ (σ'.less 1) L L := by
  have hs := B.sync
  have hw := B.inv.cov.whole
  refine ⟨⟨hinv, ?_, ?_, B.marks⟩, .all fun v hv q h1 h2 => ?_⟩
  · unfold synced at *
    show d.pages - 2 ^ d.O = (σ'.n - 1) * 2 ^ σ'.order
    rw [u.n, u.order, Nat.sub_mul, ← hs, ho, Nat.one_mul]
  · rw [B.live]
    show d.live = (d.live ++ [(d.top, d.O)]).filter (·.1 ≠ d.top)
    rw [List.filter_append, List.filter_cons_of_neg (by simp), List.filter_nil, List.append_nil, List.filter_eq_self.2]
    intro x hx
    have a := ((B.inv.live _ _).1 (show (x.1, x.2) ∈ d.live from hx)).2.1
    have b := ((B.inv.free _ _).1 hf).2.1
    simp only [decide_not, Bool.not_eq_eq_eq_not, Bool.not_true, decide_eq_false_iff_not]
    intro e
    rw [e, b] at a
    exact absurd (congrArg Prod.fst a) (by simp)
  · obtain ⟨c1, c2⟩ := B.color hv h1 h2
    exact u.same q (by show (d.c q).1 ≠ 0; rw [c1]; simp)

/-! ## Books are copied, and grow -/

variable {e : Still} {l r r' : List HP}

theorem copyBook_ct {g : Nat} {q : Sl} {K : Sl → World → Prop} (hl : L.length ≤ 100000) (h : ∀ q', ent e (isBook q' L :: r) (K q'))
    (k1 : Take l (blk g 49 []) r := by with_reducible first | assumption | exact .here | exact .there .here | exact .there (.there .here) | exact .there (.there (.there .here)) | exact .there (.there (.there (.there .here))) | exact .there (.there (.there (.there (.there .here)))) | exact .there (.there (.there (.there (.there (.there .here))))) | exact .there (.there (.there (.there (.there (.there (.there .here)))))) | exact .there (.there (.there (.there (.there (.there (.there (.there .here))))))) | exact .there (.there (.there (.there (.there (.there (.there (.there (.there .here)))))))) | exact .there (.there (.there (.there (.there (.there (.there (.there (.there (.there .here))))))))) | exact .there (.there (.there (.there (.there (.there (.there (.there (.there (.there (.there .here)))))))))) | exact .there (.there (.there (.there (.there (.there (.there (.there (.there (.there (.there (.there .here))))))))))) | exact .there (.there (.there (.there (.there (.there (.there (.there (.there (.there (.there (.there (.there .here))))))))))))) (k2 : Take r (isBook q L) r' := by with_reducible first | assumption | exact .here | exact .there .here | exact .there (.there .here) | exact .there (.there (.there .here)) | exact .there (.there (.there (.there .here))) | exact .there (.there (.there (.there (.there .here)))) | exact .there (.there (.there (.there (.there (.there .here))))) | exact .there (.there (.there (.there (.there (.there (.there .here)))))) | exact .there (.there (.there (.there (.there (.there (.there (.there .here))))))) | exact .there (.there (.there (.there (.there (.there (.there (.there (.there .here)))))))) | exact .there (.there (.there (.there (.there (.there (.there (.there (.there (.there .here))))))))) | exact .there (.there (.there (.there (.there (.there (.there (.there (.there (.there (.there .here)))))))))) | exact .there (.there (.there (.there (.there (.there (.there (.there (.there (.there (.there (.there .here))))))))))) | exact .there (.there (.there (.there (.there (.there (.there (.there (.there (.there (.there (.there (.there .here))))))))))))) :
    ent e l ((wpM PR).sem (Builtin.append_ #[40, 40] 40 #[.slice (some ⟨g, 0, none⟩) 0 0, .slice q.base q.len q.cap]) sS K) := by
  refine ent_sub (l' := arr 49 sBlk ⟨some ⟨g, 0, none⟩, 0, 0⟩ [] :: r) (Sub.arr k1 rfl (Nat.le_refl _) ⟨[], rfl⟩ (by simp) .refl) ?_
  refine ent_append2 (s := ⟨some ⟨g, 0, none⟩, 0, 0⟩) (xs := []) (ys := L.map blkOf) blk_elem rfl (by decide) .here k2 (by rw [List.length_map]; simp; omega) (by rw [List.length_map]; simp; omega) fun s' _ => ?_
  exact h s'

theorem pushBook_ct {g : Nat} {t : TypeId} {q : Sl} {us : List Value} {K : Sl → World → Prop} (v : Bl) (hl : L.length ≤ 100000) (h : ∀ q', ent e (isBook q' (L ++ [v]) :: r') (K q'))
    (k1 : Take l (isBook q L) r := by with_reducible first | assumption | exact .here | exact .there .here | exact .there (.there .here) | exact .there (.there (.there .here)) | exact .there (.there (.there (.there .here))) | exact .there (.there (.there (.there (.there .here)))) | exact .there (.there (.there (.there (.there (.there .here))))) | exact .there (.there (.there (.there (.there (.there (.there .here)))))) | exact .there (.there (.there (.there (.there (.there (.there (.there .here))))))) | exact .there (.there (.there (.there (.there (.there (.there (.there (.there .here)))))))) | exact .there (.there (.there (.there (.there (.there (.there (.there (.there (.there .here))))))))) | exact .there (.there (.there (.there (.there (.there (.there (.there (.there (.there (.there .here)))))))))) | exact .there (.there (.there (.there (.there (.there (.there (.there (.there (.there (.there (.there .here))))))))))) | exact .there (.there (.there (.there (.there (.there (.there (.there (.there (.there (.there (.there (.there .here))))))))))))) (k2 : Take r (blk g t us) r' := by with_reducible first | assumption | exact .here | exact .there .here | exact .there (.there .here) | exact .there (.there (.there .here)) | exact .there (.there (.there (.there .here))) | exact .there (.there (.there (.there (.there .here)))) | exact .there (.there (.there (.there (.there (.there .here))))) | exact .there (.there (.there (.there (.there (.there (.there .here)))))) | exact .there (.there (.there (.there (.there (.there (.there (.there .here))))))) | exact .there (.there (.there (.there (.there (.there (.there (.there (.there .here)))))))) | exact .there (.there (.there (.there (.there (.there (.there (.there (.there (.there .here))))))))) | exact .there (.there (.there (.there (.there (.there (.there (.there (.there (.there (.there .here)))))))))) | exact .there (.there (.there (.there (.there (.there (.there (.there (.there (.there (.there (.there .here))))))))))) | exact .there (.there (.there (.there (.there (.there (.there (.there (.there (.there (.there (.there (.there .here))))))))))))) (hu : us = sBlk.cells (blkOf v) := by rfl) :
    ent e l ((wpM PR).sem (Builtin.append_ #[40, 40] 40 #[.slice q.base q.len q.cap, .slice (some ⟨g, 0, none⟩) 1 1]) sS K) := by
  refine ent_append1 (xs := L.map blkOf) blk_elem rfl (by decide) (blkOf v) k1 k2 hu (by rw [List.length_map]; omega) (by rw [List.length_map]; omega) fun s' _ => ?_
  have := h s'
  unfold isBook at this
  rw [List.map_append] at this
  exact this

end Go.Proofs.Ytdmfnlcbfmahhaa
