/- Words in the simulated memory, and lists of pages that are linked there. -/
import Derived.Test.YtdmfnlcbfmahhaaBudC
namespace Go.Proofs.Ytdmfnlcbfmahhaa
open Go Hl

/-! ## Words -/

theorem wordN_congr {f g : Nat → Nat} {p q : Nat} : ∀ {k : Nat}, (∀ i, i < k → f (p + i) = g (q + i)) → wordN f p k = wordN g q k
  | 0, _ => rfl
  | k + 1, h => by
    simp only [wordN]
    rw [wordN_congr fun i hi => h i (by omega), h k (by omega)]

theorem wordN_bytes (v : Nat) : ∀ k, wordN (fun i => v / 256 ^ i % 256) 0 k = v % 256 ^ k
  | 0 => by simp [wordN, Nat.mod_one]
  | k + 1 => by
    simp only [wordN]
    rw [wordN_bytes v k, Nat.zero_add, Nat.pow_succ, Nat.mod_mul, Nat.mul_comm (256 ^ k)]

theorem over_in {f : Nat → Nat} {p i : Nat} {bs : List Nat} (h : i < bs.length) : Hl.over f p bs (p + i) = bs[i] := by
  unfold Hl.over
  rw [if_pos (by omega), show p + i - p = i by omega, List.getElem?_eq_getElem h]; rfl

theorem over_out {f : Nat → Nat} {p i : Nat} {bs : List Nat} (h : i < p ∨ p + bs.length ≤ i) : Hl.over f p bs i = f i := by
  unfold Hl.over
  split
  · rw [List.getElem?_eq_none (by omega)]; rfl
  · rfl

theorem bytes8_len {v : Nat} : (bytes8 v).length = 8 := by simp [bytes8]

theorem set_cf {σ : Sp} {p v : Nat} : (σ.set p v).base = σ.base ∧ (σ.set p v).limit = σ.limit ∧ (σ.set p v).order = σ.order ∧ (σ.set p v).n = σ.n := by
  unfold Sp.set; split <;> exact ⟨rfl, rfl, rfl, rfl⟩

theorem set_ok {σ : Sp} (ok : σ.Ok) {p v : Nat} : (σ.set p v).Ok := by
  unfold Sp.set; split
  · exact ok.over bytes8_lt
  · exact ok

theorem word_set_same {σ : Sp} {p v : Nat} (h : σ.has p 8) (hv : v < 2 ^ 64) : (σ.set p v).word p = v := by
  unfold Sp.set
  rw [if_pos h]
  show wordN (Hl.over σ.mem (p - σ.base) (bytes8 v)) (p - σ.base) 8 = v
  rw [wordN_congr (g := fun i => v / 256 ^ i % 256) (q := 0) (fun i hi => ?_), wordN_bytes]
  · exact Nat.mod_eq_of_lt (by rw [show (256 : Nat) ^ 8 = 2 ^ 64 by decide]; exact hv)
  · rw [over_in (by rw [bytes8_len]; exact hi), Nat.zero_add]
    simp [bytes8]

theorem mem_set_other {σ : Sp} {p v i : Nat} (h : i < p - σ.base ∨ p - σ.base + 8 ≤ i) : (σ.set p v).mem i = σ.mem i := by
  unfold Sp.set
  split
  · exact over_out (by rw [bytes8_len]; exact h)
  · rfl

theorem word_set_other {σ : Sp} {p q v : Nat} (hp : σ.base ≤ p) (hq : σ.base ≤ q) (h : q + 8 ≤ p ∨ p + 8 ≤ q) : (σ.set p v).word q = σ.word q := by
  show wordN (σ.set p v).mem (q - (σ.set p v).base) 8 = wordN σ.mem (q - σ.base) 8
  rw [set_cf.1]
  exact wordN_congr fun i hi => mem_set_other (by omega)

/-! ## Pages -/

def Sp.ad (σ : Sp) (p : Nat) : Nat := σ.base + 4096 * p

/-- The next and the last word at a page's beginning. -/
def Sp.nx (σ : Sp) (p : Nat) : Nat := σ.word (σ.ad p)
def Sp.pv (σ : Sp) (p : Nat) : Nat := σ.word (σ.ad p + 8)

/-- A page's bytes stand as they did. -/
def Same (σ σ' : Sp) (p : Nat) : Prop := ∀ x, x < 4096 → σ'.mem (4096 * p + x) = σ.mem (4096 * p + x)

structure Unt (σ σ' : Sp) (L : Nat → Prop) : Prop where
  base : σ'.base = σ.base
  limit : σ'.limit = σ.limit
  order : σ'.order = σ.order
  n : σ'.n = σ.n
  same : ∀ p, L p → Same σ σ' p

theorem Unt.refl (σ : Sp) (L : Nat → Prop) : Unt σ σ L := ⟨rfl, rfl, rfl, rfl, fun _ _ _ _ => rfl⟩

theorem Unt.trans {σ σ' σ'' : Sp} {L L' L'' : Nat → Prop} (h : Unt σ σ' L) (h' : Unt σ' σ'' L') (hl : ∀ p, L'' p → L p ∧ L' p) : Unt σ σ'' L'' :=
  ⟨h'.base.trans h.base, h'.limit.trans h.limit, h'.order.trans h.order, h'.n.trans h.n, fun p hp x hx => (h'.same p (hl p hp).2 x hx).trans (h.same p (hl p hp).1 x hx)⟩

theorem Unt.mono {σ σ' : Sp} {L L' : Nat → Prop} (h : Unt σ σ' L) (hl : ∀ p, L' p → L p) : Unt σ σ' L' := ⟨h.base, h.limit, h.order, h.n, fun p hp => h.same p (hl p hp)⟩

theorem ad_eq {σ σ' : Sp} (h : σ'.base = σ.base) (p : Nat) : σ'.ad p = σ.ad p := by unfold Sp.ad; rw [h]

theorem Same.nx {σ σ' : Sp} {p : Nat} (h : Same σ σ' p) (hb : σ'.base = σ.base) : σ'.nx p = σ.nx p := by
  unfold Sp.nx Sp.ad Sp.word
  rw [hb]
  refine wordN_congr fun i hi => ?_
  rw [show σ.base + 4096 * p - σ.base + i = 4096 * p + i by omega]
  exact h i (by omega)

theorem Same.pv {σ σ' : Sp} {p : Nat} (h : Same σ σ' p) (hb : σ'.base = σ.base) : σ'.pv p = σ.pv p := by
  unfold Sp.pv Sp.ad Sp.word
  rw [hb]
  refine wordN_congr fun i hi => ?_
  rw [show σ.base + 4096 * p + 8 - σ.base + i = 4096 * p + (8 + i) by omega]
  exact h (8 + i) (by omega)

theorem set_unt {σ : Sp} {p x v : Nat} (hx : x + 8 ≤ 4096) : Unt σ (σ.set (σ.ad p + x) v) (fun q => q ≠ p) := by
  refine ⟨set_cf.1, set_cf.2.1, set_cf.2.2.1, set_cf.2.2.2, fun q hq y hy => mem_set_other ?_⟩
  unfold Sp.ad
  rcases Nat.lt_or_gt_of_ne hq with h | h <;> omega

theorem set_nx {σ : Sp} {p v : Nat} (h : σ.has (σ.ad p) 8) (hv : v < 2 ^ 64) : (σ.set (σ.ad p) v).nx p = v ∧ (σ.set (σ.ad p) v).pv p = σ.pv p := by
  unfold Sp.nx Sp.pv
  rw [ad_eq set_cf.1]
  exact ⟨word_set_same h hv, word_set_other (by unfold Sp.ad; omega) (by unfold Sp.ad; omega) (by omega)⟩

theorem set_pv {σ : Sp} {p v : Nat} (h : σ.has (σ.ad p + 8) 8) (hv : v < 2 ^ 64) : (σ.set (σ.ad p + 8) v).pv p = v ∧ (σ.set (σ.ad p + 8) v).nx p = σ.nx p := by
  unfold Sp.nx Sp.pv
  rw [ad_eq set_cf.1]
  exact ⟨word_set_same h hv, word_set_other (by unfold Sp.ad; omega) (by unfold Sp.ad; omega) (by omega)⟩

theorem ad_inj {σ : Sp} {p q : Nat} (h : σ.ad p = σ.ad q) : p = q := by unfold Sp.ad at h; omega

/-! ## Linked lists -/

def hdA (σ : Sp) (nx : Nat) : List Nat → Nat
  | [] => nx
  | p :: _ => σ.ad p

def lastA (σ : Sp) (pv : Nat) : List Nat → Nat
  | [] => pv
  | p :: t => lastA σ (σ.ad p) t

/-- A stretch of a list: what stands before it, its pages, what stands behind it. -/
def seg (σ : Sp) (pv : Nat) : List Nat → Nat → Prop
  | [], _ => True
  | p :: t, nx => σ.nx p = hdA σ nx t ∧ σ.pv p = pv ∧ seg σ (σ.ad p) t nx

theorem hdA_eq {σ σ' : Sp} (h : σ'.base = σ.base) {nx : Nat} {l : List Nat} : hdA σ' nx l = hdA σ nx l := by
  cases l with
  | nil => rfl
  | cons p t => exact ad_eq h p

theorem lastA_eq {σ σ' : Sp} (h : σ'.base = σ.base) : ∀ {l : List Nat} {pv : Nat}, lastA σ' pv l = lastA σ pv l
  | [], _ => rfl
  | p :: t, pv => by simp only [lastA]; rw [ad_eq h]; exact lastA_eq h

theorem seg_same {σ σ' : Sp} {L : Nat → Prop} (h : Unt σ σ' L) : ∀ {l : List Nat} {pv nx : Nat}, (∀ p ∈ l, L p) → seg σ pv l nx → seg σ' pv l nx
  | [], _, _, _, _ => trivial
  | p :: t, pv, nx, hl, hs => by
    have hp := h.same p (hl p List.mem_cons_self)
    refine ⟨by rw [hp.nx h.base, hdA_eq h.base]; exact hs.1, by rw [hp.pv h.base]; exact hs.2.1, ?_⟩
    rw [ad_eq h.base]
    exact seg_same h (fun q hq => hl q (List.mem_cons_of_mem _ hq)) hs.2.2

theorem seg_append {σ : Sp} : ∀ {a b : List Nat} {pv nx : Nat}, seg σ pv (a ++ b) nx ↔ seg σ pv a (hdA σ nx b) ∧ seg σ (lastA σ pv a) b nx
  | [], b, pv, nx => ⟨fun h => ⟨trivial, h⟩, fun h => h.2⟩
  | p :: t, b, pv, nx => by
    have hh : hdA σ nx (t ++ b) = hdA σ (hdA σ nx b) t := by cases t <;> rfl
    simp only [List.cons_append, seg, lastA, hh, seg_append (a := t), and_assoc]

theorem lastA_ne {σ : Sp} (hb : 0 < σ.base) {p : Nat} {t : List Nat} {pv : Nat} : lastA σ pv (p :: t) ≠ 0 := by
  induction t generalizing p pv with
  | nil => show σ.base + 4096 * p ≠ 0; omega
  | cons q t ih => exact ih (p := q) (pv := σ.ad p)

theorem lastA_mem {σ : Sp} {t : List Nat} : ∀ {p pv : Nat}, ∃ x ∈ p :: t, lastA σ pv (p :: t) = σ.ad x := by
  induction t with
  | nil => intro p pv; exact ⟨p, List.mem_cons_self, rfl⟩
  | cons q t ih =>
    intro p pv
    obtain ⟨x, hx, he⟩ := ih (p := q) (pv := σ.ad p)
    exact ⟨x, List.mem_cons_of_mem _ hx, he⟩

/-- The last one's next word is another. -/
theorem seg_setlast {σ σ' : Sp} {x nx nx' : Nat} (h : Unt σ σ' (fun q => q ≠ x)) (hn : σ'.nx x = nx') (hp : σ'.pv x = σ.pv x) : ∀ {a : List Nat} {pv : Nat}, x ∉ a → seg σ pv (a ++ [x]) nx → seg σ' pv (a ++ [x]) nx'
  | [], pv, _, hs => ⟨hn, by rw [hp]; exact hs.2.1, trivial⟩
  | p :: t, pv, hx, hs => by
    have hpx : p ≠ x := fun e => hx (by rw [e]; exact List.mem_cons_self)
    have hsp := h.same p hpx
    have hh : ∀ nx nx', hdA σ nx (t ++ [x]) = hdA σ nx' (t ++ [x]) := fun _ _ => by cases t <;> rfl
    refine ⟨?_, by rw [hsp.pv h.base]; exact hs.2.1, ?_⟩
    · rw [hsp.nx h.base, hs.1]
      show hdA σ nx (t ++ [x]) = hdA σ' nx' (t ++ [x])
      rw [hdA_eq h.base]; exact hh _ _
    · rw [ad_eq h.base]
      exact seg_setlast h hn hp (fun hm => hx (List.mem_cons_of_mem _ hm)) hs.2.2

theorem seg_nx {σ : Sp} {l : List Nat} {pv nx : Nat} (h : seg σ pv l nx) : ∀ {a b : List Nat} {p : Nat}, l = a ++ p :: b → σ.nx p = hdA σ nx b ∧ σ.pv p = lastA σ pv a := by
  intro a b p e
  subst e
  have := (seg_append.1 h).2
  exact ⟨this.1, this.2.1⟩

/-- All that is asked of the pages of a list. -/
structure Pgs (σ : Sp) (l : List Nat) : Prop where
  there : ∀ p ∈ l, σ.has (σ.ad p) 16
  base : 0 < σ.base
  lt : ∀ p ∈ l, σ.ad p < 2 ^ 64

theorem has_mono {σ : Sp} {p n m k : Nat} (h : σ.has p n) (hn : n ≠ 0) (hk : k + m ≤ n) : σ.has (p + k) m := by
  unfold Sp.has at h ⊢; omega

theorem has_eq {σ σ' : Sp} {L : Nat → Prop} (h : Unt σ σ' L) {p n : Nat} : σ'.has p n ↔ σ.has p n := by
  unfold Sp.has Sp.size
  rw [h.base, h.order, h.n]

theorem hdA_lt {σ : Sp} {l : List Nat} (h : Pgs σ l) : hdA σ 0 l < 2 ^ 64 := by
  cases l with
  | nil => exact Nat.pow_pos (by omega)
  | cons p t => exact h.lt p List.mem_cons_self

theorem Pgs.eq {σ σ' : Sp} {L : Nat → Prop} (h : Unt σ σ' L) {l : List Nat} (hp : Pgs σ l) : Pgs σ' l :=
  ⟨fun p hm => by rw [has_eq h, ad_eq h.base]; exact hp.there p hm, by rw [h.base]; exact hp.base, fun p hm => by rw [ad_eq h.base]; exact hp.lt p hm⟩

/-- A page is put ahead of a list. -/
theorem push_seg {σ : Sp} {l : List Nat} {p : Nat} (hs : seg σ 0 l 0) (hp : Pgs σ (p :: l)) (hn : p ∉ l) :
    (σ.push (hdA σ 0 l) (σ.ad p)).2 = (σ.ad p, 0) ∧ seg (σ.push (hdA σ 0 l) (σ.ad p)).1 0 (p :: l) 0 ∧ Unt σ (σ.push (hdA σ 0 l) (σ.ad p)).1 (fun q => q ≠ p ∧ q ∉ l) := by
  have h16 := hp.there p List.mem_cons_self
  have hl : Pgs σ l := ⟨fun q hq => hp.there q (List.mem_cons_of_mem _ hq), hp.base, fun q hq => hp.lt q (List.mem_cons_of_mem _ hq)⟩
  have u1 := set_unt (σ := σ) (p := p) (x := 0) (v := hdA σ 0 l) (by omega)
  rw [Nat.add_zero] at u1
  have n1 := set_nx (σ := σ) (p := p) (v := hdA σ 0 l) (by have := has_mono h16 (by omega) (k := 0) (m := 8) (by omega); rwa [Nat.add_zero] at this) (hdA_lt hl)
  generalize h1 : σ.set (σ.ad p) (hdA σ 0 l) = σ1 at u1 n1
  have e1 : σ1.ad p = σ.ad p := ad_eq u1.base p
  have u2 := set_unt (σ := σ1) (p := p) (x := 8) (v := 0) (by omega)
  have n2 := set_pv (σ := σ1) (p := p) (v := 0) (by rw [has_eq u1, e1]; exact has_mono h16 (by omega) (by omega)) (Nat.pow_pos (by omega))
  rw [e1] at u2 n2
  generalize h2 : σ1.set (σ.ad p + 8) 0 = σ2 at u2 n2
  have u12 : Unt σ σ2 (fun q => q ≠ p) := u1.trans u2 fun q hq => ⟨hq, hq⟩
  have hnx : σ2.nx p = hdA σ 0 l := n2.2.trans n1.1
  have hpv : σ2.pv p = 0 := n2.1
  have hs2 : seg σ2 0 l 0 := seg_same u12 (fun q hq e => hn (e ▸ hq)) hs
  obtain ⟨H, hH⟩ : ∃ H, hdA σ 0 l = H := ⟨_, rfl⟩
  rw [hH] at h1 hnx ⊢
  have hpush : σ.push H (σ.ad p) = if H ≠ 0 ∧ (¬ σ.has H 16 ∨ σ.word (H + 8) ≠ 0) then (σ, H, 8) else (if H ≠ 0 then σ2.set (H + 8) (σ.ad p) else σ2, σ.ad p, 0) := by
    unfold Sp.push
    rw [if_neg (by simpa using h16), h1, h2]
  rw [hpush]
  cases l with
  | nil =>
    have hH : H = 0 := hH.symm
    rw [if_neg (fun h => h.1 hH), if_neg (fun h => h hH)]
    exact ⟨rfl, ⟨hnx.trans hH, hpv, trivial⟩, u12.mono fun q hq => hq.1⟩
  | cons y t =>
    have hH : H = σ.ad y := hH.symm
    have hy : p ≠ y := fun e => hn (by rw [e]; exact List.mem_cons_self)
    have hy16 := hp.there y (List.mem_cons_of_mem _ List.mem_cons_self)
    have hyn : σ.ad y ≠ 0 := by have := hp.base; unfold Sp.ad; omega
    rw [if_neg (by
      rintro ⟨_, h | h⟩
      · exact h (by rw [hH]; exact hy16)
      · exact h (by rw [hH]; exact hs.2.1)), if_pos (by rw [hH]; exact hyn), hH]
    rw [hH] at hnx
    have e2 : σ2.ad y = σ.ad y := ad_eq u12.base y
    have u3 := set_unt (σ := σ2) (p := y) (x := 8) (v := σ.ad p) (by omega)
    have n3 := set_pv (σ := σ2) (p := y) (v := σ.ad p) (by rw [has_eq u12, e2]; exact has_mono hy16 (by omega) (by omega)) (hp.lt p List.mem_cons_self)
    rw [e2] at u3 n3
    generalize h3 : σ2.set (σ.ad y + 8) (σ.ad p) = σ3 at u3 n3
    have u13 : Unt σ σ3 (fun q => q ≠ p ∧ q ≠ y) := u12.trans u3 fun q hq => ⟨hq.1, hq.2⟩
    refine ⟨rfl, ⟨?_, ?_, ?_, ?_, ?_⟩, u13.mono fun q hq => ⟨hq.1, fun e => hq.2 (by rw [e]; exact List.mem_cons_self)⟩⟩
    · show σ3.nx p = σ3.ad y
      rw [(u3.same p hy).nx u3.base, hnx, ad_eq u13.base]
    · show σ3.pv p = 0
      rw [(u3.same p hy).pv u3.base, hpv]
    · show σ3.nx y = hdA σ3 0 t
      rw [n3.2, hdA_eq u3.base, hs2.1]
    · show σ3.pv y = σ3.ad p
      rw [n3.1, ad_eq u13.base]
    · show seg σ3 (σ3.ad y) t 0
      have hyt : y ∉ t := fun hm => by
        have := hs2.2.2
        -- a page stands on the list once: its last word is told twice
        obtain ⟨a, b, rfl⟩ := List.append_of_mem hm
        have h5 := (seg_append.1 this).2.2.1
        have h6 : σ2.pv y = 0 := hs2.2.1
        rw [h6] at h5
        cases a with
        | nil => exact absurd h5.symm (by show σ2.base + 4096 * y ≠ 0; rw [u12.base]; have := hp.base; omega)
        | cons c a => exact absurd h5.symm (lastA_ne (by rw [u12.base]; exact hp.base))
      rw [ad_eq u3.base]
      exact seg_same u3 (fun q hq e => hyt (e ▸ hq)) hs2.2.2

theorem remove_eq {σ : Sp} {h p N V : Nat} (h16 : σ.has p 16) (hN : σ.word p = N) (hV : σ.word (p + 8) = V) (hs : σ.sound h p N V) :
    σ.remove h p = (if N ≠ 0 then (if V = 0 then σ else σ.set V N).set (N + 8) V else (if V = 0 then σ else σ.set V N), if V = 0 then N else h, 0) := by
  subst hN hV
  unfold Sp.remove
  rw [if_neg (by simpa using h16), if_neg (by simpa using hs)]

/-- A page is taken off a list. -/
theorem remove_seg {σ : Sp} (ok : σ.Ok) {a b : List Nat} {p : Nat} (hs : seg σ 0 (a ++ p :: b) 0) (hp : Pgs σ (a ++ p :: b)) (hn : (a ++ p :: b).Nodup) :
    (σ.remove (hdA σ 0 (a ++ p :: b)) (σ.ad p)).2 = (hdA σ 0 (a ++ b), 0) ∧ seg (σ.remove (hdA σ 0 (a ++ p :: b)) (σ.ad p)).1 0 (a ++ b) 0 ∧ Unt σ (σ.remove (hdA σ 0 (a ++ p :: b)) (σ.ad p)).1 (fun q => q ∉ a ++ b) := by
  have hpm : p ∈ a ++ p :: b := by simp
  have h16 := hp.there p hpm
  obtain ⟨hnx, hpv⟩ := seg_nx hs rfl
  obtain ⟨hsa, hsb⟩ := seg_append.1 hs
  obtain ⟨na, nb, nab⟩ := List.nodup_append.1 hn
  have hpa : p ∉ a := fun hm => nab p hm p List.mem_cons_self rfl
  obtain ⟨npb, nb⟩ := List.nodup_cons.1 nb
  have hw1 : σ.word (σ.ad p) = hdA σ 0 b := hnx
  have hw2 : σ.word (σ.ad p + 8) = lastA σ 0 a := hpv
  have hbn : ∀ {q : Nat}, σ.ad q ≠ 0 := fun {q} => by have := hp.base; unfold Sp.ad; omega
  have sound : σ.sound (hdA σ 0 (a ++ p :: b)) (σ.ad p) (hdA σ 0 b) (lastA σ 0 a) := by
    refine ⟨?_, ?_, ?_⟩
    · cases a with
      | nil => exact ⟨fun _ => rfl, fun _ => rfl⟩
      | cons y t =>
        refine ⟨fun h => absurd h (lastA_ne hp.base), fun h => ?_⟩
        have := ad_inj h
        exact absurd (by rw [this]; exact List.mem_cons_self) hpa
    · cases a with
      | nil => intro h; exact absurd rfl h
      | cons y t =>
        intro _
        obtain ⟨x, hx, he⟩ := lastA_mem (σ := σ) (p := y) (t := t) (pv := 0)
        rw [he]
        refine ⟨hp.there x (List.mem_append_left _ hx), ?_⟩
        -- the last of a: its next word
        obtain ⟨a', z, haz⟩ : ∃ a' z, y :: t = a' ++ [z] := ⟨(y :: t).dropLast, (y :: t).getLast (by simp), (List.dropLast_concat_getLast (by simp)).symm⟩
        have hz : lastA σ 0 (y :: t) = σ.ad z := by
          rw [haz]
          have : ∀ (l : List Nat) (pv : Nat), lastA σ pv (l ++ [z]) = σ.ad z := fun l => by
            induction l with
            | nil => intro pv; rfl
            | cons c l ih => intro pv; exact ih _
          exact this _ _
        have hxz : x = z := ad_inj (he.symm.trans hz)
        subst hxz
        rw [haz] at hsa
        exact (seg_append.1 hsa).2.1
    · cases b with
      | nil => intro h; exact absurd rfl h
      | cons y t =>
        intro _
        exact ⟨hp.there y (by simp), hsb.2.2.2.1⟩
  obtain ⟨N, hN⟩ : ∃ N, hdA σ 0 b = N := ⟨_, rfl⟩
  obtain ⟨V, hV⟩ : ∃ V, lastA σ 0 a = V := ⟨_, rfl⟩
  rw [remove_eq h16 (hw1.trans hN) (hw2.trans hV) (by rw [hN, hV] at sound; exact sound)]
  -- the two words
  have hpl : ∀ q ∈ a ++ b, q ∈ a ++ p :: b := fun q hq => by
    rcases List.mem_append.1 hq with h | h
    · exact List.mem_append_left _ h
    · exact List.mem_append_right _ (List.mem_cons_of_mem _ h)
  -- the list before
  obtain ⟨σ1, hσ1, u1, s1a, s1b⟩ : ∃ σ1, (if V = 0 then σ else σ.set V N) = σ1 ∧ Unt σ σ1 (fun q => q ∉ a) ∧ seg σ1 0 a (hdA σ1 0 b) ∧ seg σ1 (σ1.ad p) b 0 := by
    cases ha : a with
    | nil => exact ⟨σ, if_pos (by rw [← hV, ha]; rfl), Unt.refl _ _, trivial, hsb.2.2⟩
    | cons y t =>
      rw [← ha]
      obtain ⟨a', z, haz⟩ : ∃ a' z, a = a' ++ [z] := ⟨a.dropLast, a.getLast (by simp [ha]), (List.dropLast_concat_getLast (by simp [ha])).symm⟩
      have hz : lastA σ 0 a = σ.ad z := by
        rw [haz]
        have : ∀ (l : List Nat) (pv : Nat), lastA σ pv (l ++ [z]) = σ.ad z := fun l => by
          induction l with
          | nil => intro pv; rfl
          | cons c l ih => intro pv; exact ih _
        exact this _ _
      have hzm : z ∈ a := by rw [haz]; simp
      have hz16 := hp.there z (List.mem_append_left _ hzm)
      have u := set_unt (σ := σ) (p := z) (x := 0) (v := hdA σ 0 b) (by omega)
      rw [Nat.add_zero] at u
      have hbp : Pgs σ b := ⟨fun q hq => hp.there q (List.mem_append_right _ (List.mem_cons_of_mem _ hq)), hp.base, fun q hq => hp.lt q (List.mem_append_right _ (List.mem_cons_of_mem _ hq))⟩
      have n := set_nx (σ := σ) (p := z) (v := hdA σ 0 b) (by have := has_mono hz16 (by omega) (k := 0) (m := 8) (by omega); rwa [Nat.add_zero] at this) (hdA_lt hbp)
      refine ⟨σ.set (σ.ad z) (hdA σ 0 b), by rw [← hV, ← hN, hz, if_neg hbn], u.mono fun q hq e => hq (by rw [e]; exact hzm), ?_, ?_⟩
      · rw [haz] at hsa na ⊢
        rw [hdA_eq u.base]
        refine seg_setlast u n.1 n.2 ?_ hsa
        have := List.nodup_append.1 na
        exact fun hm => this.2.2 z hm z (by simp) rfl
      · rw [ad_eq u.base]
        exact seg_same u (fun q hq e => nab z hzm q (List.mem_cons_of_mem _ hq) e.symm) hsb.2.2
  rw [hσ1]
  cases hb : b with
  | nil =>
    rw [hb] at s1a
    have hN0 : N = 0 := by rw [← hN, hb]; rfl
    rw [if_neg (fun h => h hN0), List.append_nil]
    refine ⟨?_, s1a, u1.mono fun q hq => by simpa using hq⟩
    cases a with
    | nil => rw [if_pos (show V = 0 from hV.symm), hN0]; rfl
    | cons y t => rw [if_neg (by rw [← hV]; exact lastA_ne hp.base)]; rfl
  | cons y t =>
    rw [← hb]
    have hym : y ∈ b := by rw [hb]; exact List.mem_cons_self
    have hhb : hdA σ 0 b = σ.ad y := by rw [hb]; rfl
    have hy16 := hp.there y (List.mem_append_right _ (List.mem_cons_of_mem _ hym))
    have ey : σ1.ad y = σ.ad y := ad_eq u1.base y
    have u2 := set_unt (σ := σ1) (p := y) (x := 8) (v := lastA σ 0 a) (by omega)
    have hlv : lastA σ 0 a < 2 ^ 64 := by
      cases ha : a with
      | nil => exact Nat.pow_pos (by omega)
      | cons c t' =>
        obtain ⟨x, hx, he⟩ := lastA_mem (σ := σ) (p := c) (t := t') (pv := 0)
        rw [he]; exact hp.lt x (List.mem_append_left _ (by rw [ha]; exact hx))
    have n2 := set_pv (σ := σ1) (p := y) (v := lastA σ 0 a) (by rw [has_eq u1, ey]; exact has_mono hy16 (by omega) (by omega)) hlv
    rw [ey] at u2 n2
    rw [if_pos (by rw [← hN, hhb]; exact hbn), ← hN, hhb, ← hV]
    generalize σ1.set (σ.ad y + 8) (lastA σ 0 a) = σ2 at u2 n2
    have hya : y ∉ a := fun hm => nab y hm y (List.mem_cons_of_mem _ hym) rfl
    refine ⟨?_, seg_append.2 ⟨?_, ?_⟩, u1.trans u2 fun q hq => ⟨fun hm => hq (List.mem_append_left _ hm), fun e => hq (List.mem_append_right _ (by rw [e]; exact hym))⟩⟩
    · cases a with
      | nil => rw [if_pos (show lastA σ 0 [] = 0 from rfl), List.nil_append, hhb]
      | cons c t' => rw [if_neg (lastA_ne hp.base)]; rfl
    · rw [hdA_eq u2.base]
      exact seg_same u2 (fun q hq e => hya (e ▸ hq)) s1a
    · rw [lastA_eq u2.base, lastA_eq u1.base]
      rw [hb] at s1b nb ⊢
      refine ⟨?_, n2.1, ?_⟩
      · rw [n2.2, hdA_eq u2.base]; exact s1b.1
      · rw [ad_eq u2.base]
        exact seg_same u2 (fun q hq e => (List.nodup_cons.1 nb).1 (e ▸ hq)) s1b.2.2

end Go.Proofs.Ytdmfnlcbfmahhaa
