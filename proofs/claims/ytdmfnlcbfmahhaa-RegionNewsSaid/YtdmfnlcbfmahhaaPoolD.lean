/- A pool's Need; what a pool of two pages tells at first. -/
import Derived.Test.YtdmfnlcbfmahhaaPoolC
import Derived.Test.YtdmfnlcbfmahhaaLivesC
namespace Go.Proofs.Ytdmfnlcbfmahhaa
open Go Hl Bd
set_option maxRecDepth 100000

variable {e : Still} {l l1 r : List HP} {σ : Sp} {d : D} {S : Nat → Prop} {p b s m : Nat}

theorem space_ct6 {K : Tup [sP] → World → Prop} {KP : List PanicEntry → World → Prop} (h : ent e l (K (some ⟨s, 0, none⟩, ()))) (k : Take l (isPool p s m b) r := by with_reducible first | assumption | ((repeat (first | exact .here | apply Take.there)); done)) :
    ent e l ((wpM PR).call 34 [vP p] [sP] K KP) := by
  refine ent_call (fn := Go.Proofs.Try.f34) (by kernel_rfl) ?_
  rw [nf34_eq]
  exact ent_ld (some ⟨s, 0, none⟩) h k

theorem map_ct6 {K : Tup [sP] → World → Prop} {KP : List PanicEntry → World → Prop} (h : ent e l (K (some ⟨m, 0, none⟩, ()))) (k : Take l (isPool p s m b) r := by with_reducible first | assumption | ((repeat (first | exact .here | apply Take.there)); done)) :
    ent e l ((wpM PR).call 35 [vP p] [sP] K KP) := by
  refine ent_call (fn := Go.Proofs.Try.f35) (by kernel_rfl) ?_
  rw [nf35_eq]
  exact ent_ld (some ⟨m, 0, none⟩) h k

theorem buddy_ct6 {K : Tup [sP] → World → Prop} {KP : List PanicEntry → World → Prop} (h : ent e l (K (some ⟨b, 0, none⟩, ()))) (k : Take l (isPool p s m b) r := by with_reducible first | assumption | ((repeat (first | exact .here | apply Take.there)); done)) :
    ent e l ((wpM PR).call 36 [vP p] [sP] K KP) := by
  refine ent_call (fn := Go.Proofs.Try.f36) (by kernel_rfl) ?_
  rw [nf36_eq]
  exact ent_ld (some ⟨b, 0, none⟩) h k

abbrev Bd.D.fed (d : D) : D := d.come.give d.O d.pages

theorem need_ct {x : Int} {deny : Bool} {K : Tup [sU, sB, sI] → World → Prop} {KP : List PanicEntry → World → Prop} (hsync : synced σ d)
    (h1 : (x < 0 ∨ (d.O : Int) < x) → ent e l (K (0, false, 1, ())))
    (h2 : ∀ (k j q : Nat) (σ' : Sp), x = k → k ≤ d.O → d.first k (d.O + 1 - k) = some j → q ∈ d.free j → Inv ((d.pop j q).cut q j k) none → Unt σ σ' (fun t => (d.c t).1 = 1) →
      ent e (isPool p s m b :: isG S b s m σ' ((d.pop j q).cut q j k) :: r) (K ((σ.ad q : Int), false, 0, ())))
    (h3 : ∀ k : Nat, x = k → k ≤ d.O → d.first k (d.O + 1 - k) = none → (deny = true ∨ σ.n = σ.limit) → ent e l (K (0, false, 2, ())))
    (h4 : ∀ (k j q : Nat) (σ1 σ' : Sp), x = k → k ≤ d.O → d.first k (d.O + 1 - k) = none → deny = false → σ.n < σ.limit → Inv d.fed none → Unt σ.grown σ1 (fun t => (d.come.c t).1 = 1 ∧ t / 2 ^ d.O ≠ d.pages / 2 ^ d.O) →
      d.fed.first k (d.O + 1 - k) = some j → q ∈ d.fed.free j → Inv ((d.fed.pop j q).cut q j k) none → Unt σ1 σ' (fun t => (d.fed.c t).1 = 1) →
      ent e (isPool p s m b :: isG S b s m σ' ((d.fed.pop j q).cut q j k) :: r) (K ((σ.ad q : Int), true, 0, ())))
    (kp : Take l (isPool p s m b) l1 := by with_reducible first | assumption | ((repeat (first | exact .here | apply Take.there)); done)) (kg : Take l1 (isG S b s m σ d) r := by with_reducible first | assumption | ((repeat (first | exact .here | apply Take.there)); done)) :
    ent e l ((wpM PR).call 38 [vP p, vI x, vB deny] [sU, sB, sI] K KP) := by
  refine ent_call (fn := Go.Proofs.Try.f38) (by kernel_rfl) ?_
  rw [nf38_eq]
  refine ent_sub (l' := isPool p s m b :: isG S b s m σ d :: r) (Sub.cons kp (Sub.cons kg .refl)) ?_
  have back : Sub (isPool p s m b :: isG S b s m σ d :: r) l := Sub.trans (Sub.cons .here (Sub.untake kg)) (Sub.untake kp)
  refine ent_ld (some ⟨b, 0, none⟩) ?_
  refine takeG_ct (σ := σ) (d := d) (x := x) (fun hx => ?_) (fun k hk hkO hf _ => ?_) (fun k j q σ' hk hkO hf hq hd hinv hu => ?_)
  · refine ent_ne (fun _ => ent_sub back (h1 hx)) (fun c => absurd (show (1 : Int) = 2 from c) (by decide))
  rotate_left
  · rw [hd] at hinv ⊢
    refine ent_ne (fun _ => ?_) (fun c => absurd (show (0 : Int) = 2 from c) (by decide))
    exact ent_sub (by repeat (first | exact Sub.refl | refine Sub.cons (by with_reducible first | assumption | ((repeat (first | exact .here | apply Take.there)); done)) ?_ | refine Sub.drop ?_)) (h2 k j q σ' hk hkO hf hq hinv hu)
  refine ent_ne (fun c => absurd rfl c) (fun _ => ?_)
  refine ent_ld (some ⟨s, 0, none⟩) ?_
  refine commitG_ct (σ := σ) (d := d) (fun hden hn => ?_) (fun hden => ?_)
  rotate_left
  · refine ent_ne (fun _ => ent_sub back (h3 k hk hkO hf hden)) (fun c => absurd (show (2 : Int) = 0 from c) (by decide))
  refine ent_ne (fun c => absurd rfl c) (fun _ => ?_)
  refine ent_G_rep (σ := σ.grown) (d := d) (fun μ heads R => ?_)
  have sok : σ.grown.Ok := R.sok
  have ho : d.O = σ.order := R.ord
  have inv := R.inv
  have hnS : ¬ S d.pages := fun hs => Nat.lt_irrefl _ (R.slab _ hs).1.1
  have hsl : σ.limit * 2 ^ σ.order ≤ 1024 := sok.limit
  have hlim : (σ.n + 1) * 2 ^ σ.order ≤ 1024 := Nat.le_trans (Nat.mul_le_mul_right _ (by omega)) hsl
  have hpg : d.pages + 2 ^ d.O = (σ.n + 1) * 2 ^ σ.order := by rw [Nat.succ_mul, ho]; unfold synced at hsync; omega
  have hp0 : 0 < 2 ^ d.O := Nat.pow_pos (by omega)
  refine ent_ld (some ⟨m, 0, none⟩) ?_
  refine growG_ct (σ := σ.grown) (d := d) (by omega) (Nat.le_of_eq hpg) ?_
  refine ent_ld (some ⟨b, 0, none⟩) ?_
  have htop : d.come.top = d.pages := by show d.pages + 2 ^ d.O - 2 ^ d.O = d.pages; omega
  refine feedG_ct (σ := σ.grown) (d := d.come) (fun σ1 _ _ _ _ hinv1 hu1 => ?_) (fun hno => ?_)
  rotate_left
  · refine absurd (hno hpg (by show 0 < d.pages + 2 ^ d.O; omega) ?_) (by rw [htop]; exact hnS)
    rw [htop]
    show (d.pages, d.O) ∈ d.live ++ [(d.pages, d.O)]
    simp
  rw [htop] at hinv1 hu1 ⊢
  have hinv1 : Inv d.fed none := hinv1
  show ent e (isG S b s m σ1 d.fed :: isPool p s m b :: r) _
  obtain ⟨f1, f2, f3⟩ := give_same (d := d.come) (k := d.O) (p := d.pages)
  have f3 : d.fed.O = d.O := f3
  refine ent_ld (some ⟨b, 0, none⟩) ?_
  refine takeG_ct (σ := σ1) (d := d.fed) (x := x) (fun hx => absurd hx (by rw [f3]; omega)) (fun k' hk' _ hf' _ => ?_) (fun k' j q σ' hk' _ hf' hq hd hinv' hu' => ?_)
  · obtain rfl : k = k' := by omega
    rw [f3] at hf'
    have hw : d.pages % 2 ^ d.O = 0 := inv.cov.whole
    have := (stuck_iff hinv1 (k := k) (by rw [f3]; exact hkO)).1 (by rw [f3]; exact hf') d.pages (by rw [f2]; show d.pages < d.pages + 2 ^ d.O; omega) (mod_mono hw hkO)
    obtain ⟨v, hv, _, h6⟩ := this
    have hv2 : v ∈ d.live.filter (·.1 ≠ d.pages) := by
      have hv : v ∈ (d.come.give d.O d.pages).live := hv
      rw [f1] at hv
      have : d.come.live.filter (·.1 ≠ d.pages) = d.live.filter (·.1 ≠ d.pages) := by
        show (d.live ++ [(d.pages, d.O)]).filter (·.1 ≠ d.pages) = _
        rw [List.filter_append, List.filter_cons_of_neg (by simp), List.filter_nil, List.append_nil]
      rw [this] at hv; exact hv
    have hv3 : (v.1, v.2) ∈ d.live := (List.mem_filter.1 hv2).1
    have hq := (live_color inv hv3 (q := v.1 + 2 ^ v.2 - 1) (by have := Bd.pow_pos v.2; omega) (by have := Bd.pow_pos v.2; omega)).2
    omega
  · obtain rfl : k = k' := by omega
    rw [hd] at hinv' ⊢
    rw [f3] at hf'
    have had : σ1.ad q = σ.ad q := ad_eq (show σ1.base = σ.base from hu1.base) q
    have := h4 k j q σ1 σ' hk hkO hf hden hn hinv1 hu1 hf' hq hinv' hu'
    show ent e _ (K (((σ1.ad q : Nat) : Int), (((0 : Int) == 0) : Bool), 0, ()))
    rw [had]
    exact ent_sub (by repeat (first | exact Sub.refl | refine Sub.cons (by with_reducible first | assumption | ((repeat (first | exact .here | apply Take.there)); done)) ?_ | refine Sub.drop ?_)) this

abbrev e1 : D := (D.new 1).fed
theorem e1_first : e1.first 0 ((D.new 1).O + 1 - 0) = some 1 := by rfl
theorem e1_free : e1.free 1 = [0] := by rfl

theorem awake_ct {K : Tup [sB] → World → Prop} {KP : List PanicEntry → World → Prop} (h : ent e l (K (true, ()))) :
    ent e l ((wpM PR).call 28 [] [sB] K KP) := by
  refine ent_call (fn := Go.Proofs.Try.f28) (by kernel_rfl) ?_
  rw [nf28_eq]
  have hconf : Conf 65536 2 1 := ⟨by omega, by omega, by omega, by decide, by omega, by decide, by decide⟩
  refine ent_new fun x1 => ?_
  refine ent_st ?_
  refine ent_blk [vU 65536, vI 2, vI 1] ?_
  refine ent_ldA ((65536 : Int), (2 : Int), (1 : Int), ()) ?_
  refine regionNew_ct (x := 65536) (y := 2) (z := 1) (by decide) (by decide) (fun b0 n k hc a1 a2 a3 p s m b => ?_) (fun hno => absurd ⟨65536, 2, 1, rfl, rfl, rfl, hconf⟩ hno)
  obtain rfl : b0 = 65536 := by omega
  obtain rfl : n = 2 := by omega
  obtain rfl : k = 1 := by omega
  refine ent_joinP (A := Unit) (fun _ _ => True) (fun _ => isPool p s m b :: isG (fun _ => False) b s m ⟨65536, 2, 1, 0, fun _ => 0⟩ (D.new 1) :: blk x1 24 [vU 65536, vI 2, vI 1] :: l) (fun _ x4 _ => ?_) (fun k20 h20 => ?_)
  rotate_left
  · refine ent_ne (fun c => absurd rfl c) (fun _ => ?_)
    refine ent_nilP (el := 73) (by kernel_rfl) ?_
    refine ent_false ?_
    refine ent_drS ?_
    refine space_ct6 (p := p) (s := s) (m := m) (b := b) ?_
    refine ent_nilP (el := 159) (by kernel_rfl) ?_
    refine ent_false ?_
    refine ent_drS ?_
    refine map_ct6 (p := p) (s := s) (m := m) (b := b) ?_
    refine ent_nilP (el := 162) (by kernel_rfl) ?_
    refine ent_false ?_
    refine ent_drS ?_
    refine buddy_ct6 (p := p) (s := s) (m := m) (b := b) ?_
    refine ent_nilP (el := 146) (by kernel_rfl) ?_
    refine ent_false ?_
    exact h20 () _ trivial
  refine ent_ldA ((65536 : Int), (2 : Int), (1 : Int), ()) ?_
  refine ent_new fun x6 => ?_
  refine ent_new fun x7 => ?_
  refine ent_sub (l' := arr 5 s8 ⟨none, 0, 0⟩ (([] : List Nat).map fun y : Nat => (y : Int)) :: arr 57 sPg ⟨none, 0, 0⟩ [] :: arr 59 sS ⟨some ⟨x6, 0, none⟩, 1, 1⟩ (tab 1 fun _ => (⟨none, 0, 0⟩ : Sl)) :: each 1 (fun _ => arr 22 sU ⟨none, 0, 0⟩ (([] : List Nat).map fun w : Nat => (w : Int))) :: arr 22 sU ⟨some ⟨x7, 0, none⟩, 2, 2⟩ (tab 2 fun _ => ((0 : Nat) : Int)) :: isPool p s m b :: isG (fun _ => False) b s m ⟨65536, 2, 1, 0, fun _ => 0⟩ (D.new 1) :: l)
    (Sub.arr_nil (Sub.arr_nil (Sub.arr (.there .here) rfl (Nat.le_refl _) ⟨[], rfl⟩ (by decide) (Sub.each_snoc (Sub.arr_nil (Sub.each_nil (Sub.arr .here rfl (Nat.le_refl _) ⟨[], rfl⟩ (by decide) (by repeat (first | exact Sub.refl | refine Sub.cons (by with_reducible first | assumption | ((repeat (first | exact .here | apply Take.there)); done)) ?_ | refine Sub.drop ?_))))))))) ?_
  have hform : OpenForm 2 1 0 [] [] 1 (fun _ => []) 2 := ⟨by omega, rfl, rfl, ⟨by omega, by simp, by simp, rfl, fun k _ => by show 0 = (0 / 2 ^ (k + 1) + 63) / 64; rw [Nat.zero_div], fun x hx => by simp at hx⟩, rfl⟩
  refine regionOpen_ct (x := 65536) (y := 2) (z := 1) (a1 := 0) (q2 := ⟨none, 0, 0⟩) (q3 := ⟨none, 0, 0⟩) (q4 := ⟨some ⟨x6, 0, none⟩, 1, 1⟩) (q5 := ⟨some ⟨x7, 0, none⟩, 2, 2⟩) (bs := []) (xs := []) (n := 1) (nh := 2) (pq := fun _ => ⟨none, 0, 0⟩) (pw := fun _ => []) (f := fun _ => 0)
    (by decide) (by decide) (by decide) (fun b hb => by simp at hb) (by decide) (by decide) (fun k _ v hv => by simp at hv) (fun x hx => by simp at hx) (by decide) (fun i _ => by decide)
    (fun hno => absurd ⟨65536, 2, 1, rfl, rfl, rfl, hconf⟩ hno) (fun b0 lim O hc a1 a2 a3 hno => ?_) (fun b0 lim O R hc a1 a2 a3 a4 hf p' s' m' b' τ _ _ _ _ _ => ?_)
  · obtain rfl : lim = 2 := by omega
    obtain rfl : O = 1 := by omega
    exact absurd hform (hno 0 rfl)
  refine ent_joinP (A := Unit) (fun _ _ => True) (fun _ => isPool p s m b :: isG (fun _ => False) b s m ⟨65536, 2, 1, 0, fun _ => 0⟩ (D.new 1) :: l) (fun _ x9 _ => ?_) (fun k17 h17 => ?_)
  rotate_left
  · refine ent_ne (fun c => absurd rfl c) (fun _ => ?_)
    refine ent_nilP (el := 73) (by kernel_rfl) ?_
    refine ent_false ?_
    exact ent_sub (by repeat (first | exact Sub.refl | refine Sub.cons (by with_reducible first | assumption | ((repeat (first | exact .here | apply Take.there)); done)) ?_ | refine Sub.drop ?_)) (h17 () _ trivial)
  refine need_ct (p := p) (s := s) (m := m) (b := b) (S := fun _ => False) (σ := ⟨65536, 2, 1, 0, fun _ => 0⟩) (d := D.new 1) (x := 0) (deny := false) (by rfl) (fun hc => absurd hc (by show ¬ ((0 : Int) < 0 ∨ (1 : Int) < 0); omega))
    (fun k j q σ' _ _ hf => absurd rfl (first_some hf).2.2.1) (fun k _ _ _ hd => absurd hd (by simp)) (fun k j q σ1 σ' hk _ _ _ _ _ hu1 hf hq _ hu2 => ?_)
  obtain rfl : k = 0 := by omega
  have hj : j = 1 := by rw [e1_first] at hf; injection hf with hf; exact hf.symm
  subst hj
  obtain rfl : q = 0 := by rw [e1_free] at hq; simpa using hq
  refine ent_eq (fun _ => ?_) (fun c => absurd rfl c)
  refine ent_true ?_
  refine ent_eq (fun _ => ?_) (fun c => absurd rfl c)
  refine ent_drS ?_
  refine space_ct6 (p := p) (s := s) (m := m) (b := b) ?_
  refine regionsG_ct (σ := σ') ?_
  have hn : σ'.n = 1 := by rw [hu2.n, hu1.n]; rfl
  show ent e _ (K ((((σ'.n : Nat) : Int) == 1), ()))
  rw [hn]
  exact ent_sub (by repeat (first | exact Sub.refl | refine Sub.cons (by with_reducible first | assumption | ((repeat (first | exact .here | apply Take.there)); done)) ?_ | refine Sub.drop ?_)) h

end Go.Proofs.Ytdmfnlcbfmahhaa
