/- The buddy over a space and a map that fit: its contracts in blocks of pages. -/
import Derived.Test.YtdmfnlcbfmahhaaRepC
namespace Go.Proofs.Ytdmfnlcbfmahhaa
open Go Hl Bd
set_option maxRecDepth 100000

variable {e : Still} {l r : List HP} {b s m : Nat} {S : Nat → Prop} {σ : Sp} {d : D} {X : World → Prop}

def isG (S : Nat → Prop) (b s m : Nat) (σ : Sp) (d : D) : HP := ex fun q : Mp × (Nat → Nat) => all [fact (Rep S ⟨σ, q.1, q.2⟩ d none), isB b s m ⟨σ, q.1, q.2⟩]

theorem ent_G (h : ∀ μ heads, Rep S ⟨σ, μ, heads⟩ d none → ent e (isB b s m ⟨σ, μ, heads⟩ :: r) X) (k : Take l (isG S b s m σ d) r := by with_reducible first | assumption | ((repeat (first | exact .here | apply Take.there)); done)) : ent e l X := by
  refine ent_ex k fun q => ent_all .here ?_
  exact ent_fact .here fun hr => h q.1 q.2 hr

theorem sub_G {B : BS} {l' : List HP} (R : Rep S B d none) (h : Sub l (isB b s m B :: l')) : Sub l (isG S b s m B.σ d :: l') :=
  Sub.ex (B.μ, B.heads) (Sub.all (Sub.fact R h))

theorem ent_G_rep (h : ∀ μ heads, Rep S ⟨σ, μ, heads⟩ d none → ent e l X) (k : Take l (isG S b s m σ d) r := by with_reducible first | assumption | ((repeat (first | exact .here | apply Take.there)); done)) : ent e l X := by
  refine ent_G (fun μ heads R => ?_) k
  exact ent_sub (Sub.trans (sub_G R (by repeat (first | exact Sub.refl | refine Sub.cons (by with_reducible first | assumption | ((repeat (first | exact .here | apply Take.there)); done)) ?_ | refine Sub.drop ?_))) (Sub.untake k)) (h μ heads R)

theorem takeG_ct {x : Int} {K : Tup [sU, sI] → World → Prop} {KP : List PanicEntry → World → Prop}
    (h1 : (x < 0 ∨ (d.O : Int) < x) → ent e l (K (0, 1, ())))
    (h2 : ∀ k : Nat, x = k → k ≤ d.O → d.first k (d.O + 1 - k) = none → d.take k = (d, none) → ent e l (K (0, 2, ())))
    (h3 : ∀ (k j p : Nat) (σ' : Sp), x = k → k ≤ d.O → d.first k (d.O + 1 - k) = some j → p ∈ d.free j → d.take k = ((d.pop j p).cut p j k, some p) → Inv (d.take k).1 none → Unt σ σ' (fun q => (d.c q).1 = 1) → ent e (isG S b s m σ' (d.take k).1 :: r) (K ((σ.ad p : Int), 0, ())))
    (k : Take l (isG S b s m σ d) r := by with_reducible first | assumption | ((repeat (first | exact .here | apply Take.there)); done)) :
    ent e l ((wpM PR).call 41 [vP b, vI x] [sU, sI] K KP) := by
  refine ent_G (fun μ heads R => ?_) k
  have hO := R.ord
  refine take_ct ?_ .here
  by_cases hx : 0 ≤ x ∧ x ≤ (d.O : Int)
  · obtain ⟨t, rfl⟩ : ∃ t : Nat, x = t := ⟨x.toNat, by omega⟩
    have ht : t ≤ d.O := by omega
    obtain ⟨a, c⟩ := R.take ht
    cases hf : d.first t (d.O + 1 - t) with
    | none =>
      obtain ⟨e1, e2⟩ := a hf
      rw [e1]
      exact ent_sub (Sub.trans (sub_G R (by repeat (first | exact Sub.refl | refine Sub.cons (by with_reducible first | assumption | ((repeat (first | exact .here | apply Take.there)); done)) ?_ | refine Sub.drop ?_))) (Sub.untake k)) (h2 t rfl ht hf e2)
    | some j =>
      obtain ⟨p, B', e1, e2, e3, R', u⟩ := c j hf
      rw [e3]
      exact ent_sub (sub_G R' (by repeat (first | exact Sub.refl | refine Sub.cons (by with_reducible first | assumption | ((repeat (first | exact .here | apply Take.there)); done)) ?_ | refine Sub.drop ?_))) (h3 t j p B'.σ rfl ht hf e2 e1 R'.inv u)
  · have : BS.take ⟨σ, μ, heads⟩ x = (⟨σ, μ, heads⟩, 0, 1) := by
      unfold BS.take
      have hO : d.O = σ.order := hO
      exact if_neg (fun hc => hx ⟨hc.1, by have := hc.2; rw [hO]; exact this⟩)
    rw [this]
    exact ent_sub (Sub.trans (sub_G R (by repeat (first | exact Sub.refl | refine Sub.cons (by with_reducible first | assumption | ((repeat (first | exact .here | apply Take.there)); done)) ?_ | refine Sub.drop ?_))) (Sub.untake k)) (h1 (by omega))

theorem giveG_ct {x y : Int} {K : Tup [sI] → World → Prop} {KP : List PanicEntry → World → Prop} (a : Nat) (hx : x = a) (ha : a < 18446744073709551616)
    (h1 : ∀ (p k : Nat) (σ' : Sp), a = σ.ad p → y = k → (p, k) ∈ d.live → ¬ S p → Inv (d.give k p) none → Unt σ σ' (fun q => (d.c q).1 = 1 ∧ q / 2 ^ k ≠ p / 2 ^ k) → ent e (isG S b s m σ' (d.give k p) :: r) (K (0, ())))
    (h2 : (∀ p k : Nat, a = σ.ad p → y = k → (p, k) ∈ d.live → S p) → ent e l (K (1, ()))) (k : Take l (isG S b s m σ d) r := by with_reducible first | assumption | ((repeat (first | exact .here | apply Take.there)); done)) :
    ent e l ((wpM PR).call 42 [vP b, vU x, vI y] [sI] K KP) := by
  refine ent_G (fun μ heads R => ?_) k
  refine give_ct a hx ha ?_ .here
  by_cases hn : ∀ p k : Nat, a = σ.ad p → y = k → (p, k) ∈ d.live → S p
  · rw [R.give_none hn]
    exact ent_sub (Sub.trans (sub_G R (by repeat (first | exact Sub.refl | refine Sub.cons (by with_reducible first | assumption | ((repeat (first | exact .here | apply Take.there)); done)) ?_ | refine Sub.drop ?_))) (Sub.untake k)) (h2 hn)
  · obtain ⟨p, t, e1, e2, e3, e4⟩ : ∃ p t : Nat, a = σ.ad p ∧ y = t ∧ (p, t) ∈ d.live ∧ ¬ S p := by
      refine Classical.byContradiction fun h => hn fun p t a1 a2 a3 => ?_
      exact Classical.byContradiction fun a4 => h ⟨p, t, a1, a2, a3, a4⟩
    subst e1 e2
    obtain ⟨B', e5, R', u⟩ := R.give e3 e4
    have e5 : BS.give ⟨σ, μ, heads⟩ (σ.ad p) (t : Int) = (B', 0) := e5
    rw [e5]
    exact ent_sub (sub_G R' (by repeat (first | exact Sub.refl | refine Sub.cons (by with_reducible first | assumption | ((repeat (first | exact .here | apply Take.there)); done)) ?_ | refine Sub.drop ?_))) (h1 p t B'.σ rfl rfl e3 e4 R'.inv u)

theorem shrinkG_ct {x y z : Int} {K : Tup [sI] → World → Prop} {KP : List PanicEntry → World → Prop} (a : Nat) (hx : x = a) (ha : a < 18446744073709551616)
    (h1 : ∀ (p k t : Nat) (σ' : Sp), a = σ.ad p → y = k → z = t → t ≤ k → (p, k) ∈ d.live → ¬ S p → Inv (d.shrink p k t) none → Unt σ σ' (fun q => (d.c q).1 = 1 ∧ ¬ (p + 2 ^ t ≤ q ∧ q < p + 2 ^ k)) → ent e (isG S b s m σ' (d.shrink p k t) :: r) (K (0, ())))
    (h2 : (∀ p k : Nat, a = σ.ad p → y = k → (p, k) ∈ d.live → ¬ S p → ¬ (0 ≤ z ∧ z ≤ y)) → ent e l (K (1, ()))) (k : Take l (isG S b s m σ d) r := by with_reducible first | assumption | ((repeat (first | exact .here | apply Take.there)); done)) :
    ent e l ((wpM PR).call 45 [vP b, vU x, vI y, vI z] [sI] K KP) := by
  refine ent_G (fun μ heads R => ?_) k
  refine shrink_ct a hx ha ?_ .here
  by_cases hn : ∀ p k : Nat, a = σ.ad p → y = k → (p, k) ∈ d.live → ¬ S p → ¬ (0 ≤ z ∧ z ≤ y)
  · rw [R.shrink_none hn]
    exact ent_sub (Sub.trans (sub_G R (by repeat (first | exact Sub.refl | refine Sub.cons (by with_reducible first | assumption | ((repeat (first | exact .here | apply Take.there)); done)) ?_ | refine Sub.drop ?_))) (Sub.untake k)) (h2 hn)
  · obtain ⟨p, t, e1, e2, e3, e4, e5⟩ : ∃ p t : Nat, a = σ.ad p ∧ y = t ∧ (p, t) ∈ d.live ∧ ¬ S p ∧ (0 ≤ z ∧ z ≤ y) := by
      refine Classical.byContradiction fun h => hn fun p t a1 a2 a3 a4 a5 => h ⟨p, t, a1, a2, a3, a4, a5⟩
    obtain ⟨u, rfl⟩ : ∃ u : Nat, z = u := ⟨z.toNat, by omega⟩
    subst e1 e2
    obtain ⟨B', e6, R', un⟩ := R.shrink (to := u) e3 e4 (by omega)
    have e6 : BS.shrink ⟨σ, μ, heads⟩ (σ.ad p) (t : Int) (u : Int) = (B', 0) := e6
    rw [e6]
    exact ent_sub (sub_G R' (by repeat (first | exact Sub.refl | refine Sub.cons (by with_reducible first | assumption | ((repeat (first | exact .here | apply Take.there)); done)) ?_ | refine Sub.drop ?_))) (h1 p t u B'.σ rfl rfl rfl (by omega) e3 e4 R'.inv un)

theorem feedG_ct {K : Tup [sI] → World → Prop} {KP : List PanicEntry → World → Prop}
    (h1 : ∀ σ' : Sp, synced σ d → 0 < d.pages → (d.top, d.O) ∈ d.live → ¬ S d.top → Inv (d.give d.O d.top) none → Unt σ σ' (fun q => (d.c q).1 = 1 ∧ q / 2 ^ d.O ≠ d.top / 2 ^ d.O) → ent e (isG S b s m σ' (d.give d.O d.top) :: r) (K (0, ())))
    (h2 : (synced σ d → 0 < d.pages → (d.top, d.O) ∈ d.live → S d.top) → ent e l (K (9, ()))) (k : Take l (isG S b s m σ d) r := by with_reducible first | assumption | ((repeat (first | exact .here | apply Take.there)); done)) :
    ent e l ((wpM PR).call 23 [vP b] [sI] K KP) := by
  refine ent_G (fun μ heads R => ?_) k
  refine feed_ct ?_ .here
  by_cases hn : synced σ d → 0 < d.pages → (d.top, d.O) ∈ d.live → S d.top
  · rw [R.feed_none hn]
    exact ent_sub (Sub.trans (sub_G R (by repeat (first | exact Sub.refl | refine Sub.cons (by with_reducible first | assumption | ((repeat (first | exact .here | apply Take.there)); done)) ?_ | refine Sub.drop ?_))) (Sub.untake k)) (h2 hn)
  · obtain ⟨e1, e2, e3, e4⟩ : synced σ d ∧ 0 < d.pages ∧ (d.top, d.O) ∈ d.live ∧ ¬ S d.top := by
      refine Classical.byContradiction fun h => hn fun a1 a2 a3 => Classical.byContradiction fun a4 => h ⟨a1, a2, a3, a4⟩
    obtain ⟨B', e5, R', u⟩ := R.feed e1 e2 e3 e4
    rw [e5]
    exact ent_sub (sub_G R' (by repeat (first | exact Sub.refl | refine Sub.cons (by with_reducible first | assumption | ((repeat (first | exact .here | apply Take.there)); done)) ?_ | refine Sub.drop ?_))) (h1 B'.σ e1 e2 e3 e4 R'.inv u)

theorem pullG_ct {K : Tup [sI] → World → Prop} {KP : List PanicEntry → World → Prop}
    (h1 : ∀ σ' : Sp, synced σ d → 0 < d.pages → d.top ∈ d.free d.O → Inv d.pull none → Unt σ σ' (fun q => (d.c q).1 ≠ 0) → ent e (isG S b s m σ' d.pull :: r) (K (0, ())))
    (h2 : (synced σ d → 0 < d.pages → d.top ∉ d.free d.O) → ent e l (K (9, ()))) (k : Take l (isG S b s m σ d) r := by with_reducible first | assumption | ((repeat (first | exact .here | apply Take.there)); done)) :
    ent e l ((wpM PR).call 46 [vP b] [sI] K KP) := by
  refine ent_G (fun μ heads R => ?_) k
  refine pull_ct ?_ .here
  by_cases hn : synced σ d → 0 < d.pages → d.top ∉ d.free d.O
  · rw [R.pull_none hn]
    exact ent_sub (Sub.trans (sub_G R (by repeat (first | exact Sub.refl | refine Sub.cons (by with_reducible first | assumption | ((repeat (first | exact .here | apply Take.there)); done)) ?_ | refine Sub.drop ?_))) (Sub.untake k)) (h2 hn)
  · obtain ⟨e1, e2, e3⟩ : synced σ d ∧ 0 < d.pages ∧ d.top ∈ d.free d.O := by
      refine Classical.byContradiction fun h => hn fun a1 a2 a3 => h ⟨a1, a2, a3⟩
    obtain ⟨B', e5, R', u⟩ := R.pull e1 e2 e3
    rw [e5]
    exact ent_sub (sub_G R' (by repeat (first | exact Sub.refl | refine Sub.cons (by with_reducible first | assumption | ((repeat (first | exact .here | apply Take.there)); done)) ?_ | refine Sub.drop ?_))) (h1 B'.σ e1 e2 e3 R'.inv u)

theorem headsG_ct {K : Tup [sS] → World → Prop} {KP : List PanicEntry → World → Prop}
    (h : ∀ q : Sl, ent e (arr 22 sU q (tab (d.O + 1) fun k => ((hdA σ 0 (d.free k) : Nat) : Int)) :: l) (K (q, ()))) (k : Take l (isG S b s m σ d) r := by with_reducible first | assumption | ((repeat (first | exact .here | apply Take.there)); done)) :
    ent e l ((wpM PR).call 40 [vP b] [sS] K KP) := by
  refine ent_G (fun μ heads R => ?_) k
  have hO : d.O = σ.order := R.ord
  refine heads_ct (B := ⟨σ, μ, heads⟩) (fun q => ?_) .here
  have : (tab (σ.order + 1) fun k => ((heads k : Nat) : Int)) = tab (d.O + 1) fun k => ((hdA σ 0 (d.free k) : Nat) : Int) := by
    rw [← hO]
    refine tab_congr fun i hi => ?_
    have : heads i = hdA σ 0 (d.free i) := R.heads i (by omega)
    rw [this]
  rw [this]
  exact ent_sub (Sub.cons .here (Sub.trans (sub_G R (by repeat (first | exact Sub.refl | refine Sub.cons (by with_reducible first | assumption | ((repeat (first | exact .here | apply Take.there)); done)) ?_ | refine Sub.drop ?_))) (Sub.untake k))) (h q)

theorem commitG_ct {x : Bool} {K : Tup [sU, sI] → World → Prop} {KP : List PanicEntry → World → Prop}
    (h1 : x = false → σ.n < σ.limit → ent e (isG S b s m σ.grown d :: r) (K (((σ.base + σ.size * σ.n : Nat) : Int), 0, ()))) (h2 : x = true ∨ σ.n = σ.limit → ent e l (K (0, 2, ())))
    (k : Take l (isG S b s m σ d) r := by with_reducible first | assumption | ((repeat (first | exact .here | apply Take.there)); done)) :
    ent e l ((wpM PR).call 55 [vP s, vB x] [sU, sI] K KP) := by
  refine ent_G (fun μ heads R => ?_) k
  refine ent_B (fun okb => ?_) .here
  refine commit_ct (fun hx hn => ?_) (fun hx => ?_) .here
  · exact ent_sub (sub_G (R.commit hn) (sub_B ⟨σ.grown, μ, heads⟩ ⟨okb.order, okb.heads⟩ (by repeat (first | exact Sub.refl | refine Sub.cons (by with_reducible first | assumption | ((repeat (first | exact .here | apply Take.there)); done)) ?_ | refine Sub.drop ?_)))) (h1 hx hn)
  · exact ent_sub (Sub.trans (sub_G R (sub_B ⟨σ, μ, heads⟩ okb (by repeat (first | exact Sub.refl | refine Sub.cons (by with_reducible first | assumption | ((repeat (first | exact .here | apply Take.there)); done)) ?_ | refine Sub.drop ?_)))) (Sub.untake k)) (h2 hx)

theorem growG_ct {K : Tup [] → World → Prop} {KP : List PanicEntry → World → Prop} (hn : d.pages + 2 ^ d.O ≤ 1024) (hm : d.pages + 2 ^ d.O ≤ σ.n * 2 ^ σ.order)
    (h : ent e (isG S b s m σ d.come :: r) (K ())) (k : Take l (isG S b s m σ d) r := by with_reducible first | assumption | ((repeat (first | exact .here | apply Take.there)); done)) :
    ent e l ((wpM PR).call 53 [vP m] [] K KP) := by
  refine ent_G (fun μ heads R => ?_) k
  have hO : d.O = σ.order := R.ord
  refine ent_B (fun okb => ?_) .here
  have hmo : μ.order = d.O := by have : μ.order = σ.order := okb.order; omega
  have hmn : μ.n = d.pages := R.n
  refine grow_ct (fun _ => ?_) (fun hc => by rw [hmo, hmn] at hc; omega)
  exact ent_sub (sub_G (R.come hn hm) (sub_B ⟨σ, μ.grown, heads⟩ ⟨okb.order, okb.heads⟩ (by repeat (first | exact Sub.refl | refine Sub.cons (by with_reducible first | assumption | ((repeat (first | exact .here | apply Take.there)); done)) ?_ | refine Sub.drop ?_)))) h

theorem pagesG_ct {K : Tup [sI] → World → Prop} {KP : List PanicEntry → World → Prop} (h : ent e l (K ((d.pages : Int), ()))) (k : Take l (isG S b s m σ d) r := by with_reducible first | assumption | ((repeat (first | exact .here | apply Take.there)); done)) :
    ent e l ((wpM PR).call 39 [vP m] [sI] K KP) := by
  refine ent_G (fun μ heads R => ?_) k
  refine ent_B (fun okb => ?_) .here
  refine pages_ct ?_
  have hmn : μ.n = d.pages := R.n
  rw [hmn]
  exact ent_sub (Sub.trans (sub_G R (sub_B ⟨σ, μ, heads⟩ okb (by repeat (first | exact Sub.refl | refine Sub.cons (by with_reducible first | assumption | ((repeat (first | exact .here | apply Take.there)); done)) ?_ | refine Sub.drop ?_)))) (Sub.untake k)) h

theorem regionsG_ct {K : Tup [sI] → World → Prop} {KP : List PanicEntry → World → Prop} (h : ent e l (K ((σ.n : Int), ()))) (k : Take l (isG S b s m σ d) r := by with_reducible first | assumption | ((repeat (first | exact .here | apply Take.there)); done)) :
    ent e l ((wpM PR).call 37 [vP s] [sI] K KP) := by
  refine ent_G (fun μ heads R => ?_) k
  refine ent_B (fun okb => ?_) .here
  refine regions_ct .here ?_
  exact ent_sub (Sub.trans (sub_G R (sub_B ⟨σ, μ, heads⟩ okb (by repeat (first | exact Sub.refl | refine Sub.cons (by with_reducible first | assumption | ((repeat (first | exact .here | apply Take.there)); done)) ?_ | refine Sub.drop ?_)))) (Sub.untake k)) h

/-- Many bytes of one kind, in live blocks. -/
theorem fillG_ct {x y z : Int} {K : Tup [sI] → World → Prop} {KP : List PanicEntry → World → Prop} (p n v : Nat) (hx : x = (σ.ad p : Nat)) (hy : y = n) (hz : z = v) (hv : v < 256) (hn : n ≤ 4096 * (d.pages - p)) (hp : p < d.pages)
    (hl : ∀ q, p ≤ q → 4096 * q < 4096 * p + n → (d.c q).1 ≠ 0)
    (h : ent e (isG S b s m (σ.over (σ.ad p) (List.replicate n v)) d :: r) (K (0, ()))) (k : Take l (isG S b s m σ d) r := by with_reducible first | assumption | ((repeat (first | exact .here | apply Take.there)); done)) :
    ent e l ((wpM PR).call 25 [vP s, vU x, vU y, v8 z] [sI] K KP) := by
  refine ent_G (fun μ heads R => ?_) k
  refine ent_B (fun okb => ?_) .here
  have hmem : d.pages ≤ σ.n * 2 ^ σ.order := R.mem
  have hsz := size_pages (σ := σ)
  have hok : σ.Ok := R.sok
  have he := hok.end_le
  have hle : 4096 * d.pages ≤ 4096 * (σ.n * 2 ^ σ.order) := Nat.mul_le_mul_left _ hmem
  refine fill_ct (σ.ad p) n v .here hx hy hz hv (by unfold Sp.ad; omega) (by omega) (fun hh => ?_) (fun hno => absurd ?_ hno)
  · refine ent_sub (sub_G (B := ⟨σ.over (σ.ad p) (List.replicate n v), μ, heads⟩) (R.other (hok.over fun b hb => by rw [List.mem_replicate] at hb; omega) rfl rfl hmem fun q hq hc w hw => ?_) (sub_B ⟨σ.over (σ.ad p) (List.replicate n v), μ, heads⟩ ⟨okb.order, okb.heads⟩ (by repeat (first | exact Sub.refl | refine Sub.cons (by with_reducible first | assumption | ((repeat (first | exact .here | apply Take.there)); done)) ?_ | refine Sub.drop ?_)))) h
    show Hl.over σ.mem (σ.ad p - σ.base) (List.replicate n v) (4096 * q + w) = σ.mem (4096 * q + w)
    refine over_out ?_
    rw [List.length_replicate, show σ.ad p - σ.base = 4096 * p by unfold Sp.ad; omega]
    refine Classical.byContradiction fun hno => ?_
    exact hl q (by omega) (by omega) hc
  · right
    show σ.base ≤ σ.ad p ∧ σ.ad p + n ≤ σ.base + σ.size * σ.n
    unfold Sp.ad
    omega

end Go.Proofs.Ytdmfnlcbfmahhaa
