/- A few answers that the document tells. -/
import Derived.Test.YtdmfnlcbfmahhaaWorldC
import Derived.Test.YtdmfnlcbfmahhaaBe
namespace Go.Proofs.Ytdmfnlcbfmahhaa
open Go Hl Bd
set_option maxRecDepth 100000

variable {e : Still} {l r : List HP} {X : World → Prop}

theorem ent_drS {f : World → Prop} {a : Addr} {K : Addr → World → Prop} (h : ent e l (K a)) : ent e l (dr f (some a) K) := h

theorem ent_keepP {b : Nat} {t : TypeId} {vs us : List Value} {fs : List (Addr × List Value)} {x : World → Prop} (h : ent e l ((wpM PR).keep fs x)) (hv : ∀ (i : Nat) (u : Value), us[i]? = some u → vs[i]? = some u) (k : Take l (blk b t vs) r := by with_reducible first | assumption | ((repeat (first | exact .here | apply Take.there)); done)) :
    ent e l ((wpM PR).keep ((⟨b, 0, none⟩, us) :: fs) x) :=
  ent_keepS (fun w hw => hw.rowAt k fun i u hu => by rw [Nat.zero_add]; exact hv i u hu) h

theorem get_pre {vs us : List Value} (h : us <+: vs) : ∀ (i : Nat) (u : Value), us[i]? = some u → vs[i]? = some u := by
  obtain ⟨t, rfl⟩ := h
  intro i u hu
  rw [List.getElem?_append_left (List.getElem?_eq_some_iff.1 hu).1]; exact hu

/-- Two buddies over one space and map: which of both has them does not matter. -/
theorem ent_swap {b b' s m : Nat} {B : BS} (h : ent e (isB b s m B :: isBud b' s m B.σ.base B.σ.limit B.σ.order B.heads :: r) X) : ent e (isB b' s m B :: isBud b s m B.σ.base B.σ.limit B.σ.order B.heads :: r) X := by
  refine ent_B (fun ok => ?_) .here
  exact ent_sub (sub_B (b := b) (B := B) ok (Sub.cons .here (Sub.cons .here (Sub.cons (.there .here) (Sub.cons .here .refl))))) h

abbrev dA : D := (D.new 2).come
abbrev dB : D := dA.give dA.O dA.top
abbrev dC : D := (dB.take 0).1

theorem dB_live : dB.live = [] := by rfl
theorem dB_first : dB.first 0 (dB.O + 1 - 0) = some 2 := by rfl
theorem dB_free : dB.free 2 = [0] := by rfl
theorem dC_free : dC.free 0 = [1] ∧ dC.free 1 = [2] ∧ dC.free 2 = [] := ⟨by rfl, by rfl, by rfl⟩


theorem Sub.nilAll : Sub l [] := fun _ y => by
  obtain ⟨a, b, s, h1, h2⟩ := y
  exact emp_star trivial

theorem lives_ct {K : Tup [sB] → World → Prop} {KP : List PanicEntry → World → Prop} (h : ent e l (K (true, ()))) :
    ent e l ((wpM PR).call 21 [] [sB] K KP) := by
  refine ent_call (fn := Go.Proofs.Try.f21) (by kernel_rfl) ?_
  rw [nf21_eq]
  refine begin_ct (x := 65536) (y := 2) (z := 2) (by decide) (by decide) fun b0 n k hc he w b s m => ?_
  obtain ⟨e1, e2, e3⟩ := he ⟨65536, 2, 2, rfl, rfl, rfl, ⟨by omega, by omega, by omega, by decide, by omega, by decide, by decide⟩⟩
  obtain rfl : b0 = 65536 := by omega
  obtain rfl : n = 2 := by omega
  obtain rfl : k = 2 := by omega
  refine ent_nilP (el := 38) (by kernel_rfl) ?_
  refine ent_false ?_
  refine ent_drS ?_
  refine ent_W (fun fs ls hO hP => ?_)
  refine ent_ld (some ⟨b, 0, none⟩) ?_
  refine takeG_ct (σ := ⟨65536, 2, 2, 0, fun _ => 0⟩) (d := D.new 2) (x := 0) (fun hc => absurd hc (by show ¬ ((0 : Int) < 0 ∨ (2 : Int) < 0); omega)) (fun k' _ _ _ _ => ?_) (fun k' j p σ' _ _ hf hp => absurd rfl (first_some hf).2.2.1)
  refine ent_joinP (A := Sp) (fun σ1 _ => σ1.base = 65536 ∧ σ1.order = 2) (fun σ1 => isW w b s m σ1 dB dA :: l) (fun σ1 x6 hx => ?_) (fun k53 h53 => ?_)
  rotate_left
  · refine ent_ne (fun c => absurd rfl c) (fun _ => ?_)
    refine ent_ne (fun c => absurd rfl c) (fun _ => ?_)
    refine ent_drS ?_
    refine ent_ld (some ⟨b, 0, none⟩) ?_
    refine feedG_ct (σ := ⟨65536, 2, 2, 0, fun _ => 0⟩) (d := D.new 2) (fun σ' _ h1 => absurd h1 (Nat.lt_irrefl 0)) (fun _ => ?_)
    refine ent_ne (fun c => absurd rfl c) (fun _ => ?_)
    refine ent_sub (l' := isW w b s m ⟨65536, 2, 2, 0, fun _ => 0⟩ (D.new 2) (D.new 2) :: l) (sub_W hO hP (by repeat (first | exact Sub.refl | refine Sub.cons (by with_reducible first | assumption | ((repeat (first | exact .here | apply Take.there)); done)) ?_ | refine Sub.drop ?_))) ?_
    refine come_ct (σ := ⟨65536, 2, 2, 0, fun _ => 0⟩) (d := D.new 2) (d0 := D.new 2) (by decide) (by rfl) (by show ([] : List (Nat × Nat)).length ≤ 100000; decide) ?_
    refine ent_not (fun c => Bool.noConfusion (show true = false from c)) (fun _ => ?_)
    refine ent_W (fun fs' ls' hO' hP' => ?_)
    refine ent_drS ?_
    refine ent_ld (some ⟨b, 0, none⟩) ?_
    refine feedG_ct (σ := Sp.grown ⟨65536, 2, 2, 0, fun _ => 0⟩) (d := dA) (fun σ' _ _ _ _ hinv hu => ?_) (fun hno => absurd (hno (by rfl) (by decide) (by decide)) (fun h => h))
    refine ent_ne (fun c => absurd rfl c) (fun _ => ?_)
    refine ent_drS ?_
    refine ent_ld (some ⟨b, 0, none⟩) ?_
    refine feedG_ct (σ := σ') (d := dB) (fun σ'' _ _ hl => absurd hl (by show ¬ (_ ∈ dB.live); rw [dB_live]; simp)) (fun _ => ?_)
    refine ent_ne (fun c => absurd rfl c) (fun _ => ?_)
    refine ent_sub ?_ (h53 σ' _ ⟨hu.base, hu.order⟩)
    refine sub_W (fs := fs') (ls := ls') (by rfl) (by rfl) ?_
    unfold wBlk
    rw [hu.base, hu.limit, hu.order]
    exact (by repeat (first | exact Sub.refl | refine Sub.cons (by with_reducible first | assumption | ((repeat (first | exact .here | apply Take.there)); done)) ?_ | refine Sub.drop ?_))
  · obtain ⟨hb, ho⟩ := hx
    refine ent_drS ?_
    refine ent_W (fun fs ls hO hP => ?_)
    refine ent_ld (some ⟨b, 0, none⟩) ?_
    refine takeG_ct (σ := σ1) (d := dB) (x := 0) (fun hc => absurd hc (by show ¬ ((0 : Int) < 0 ∨ (2 : Int) < 0); omega)) (fun k' hk _ hf _ => ?_) (fun k' j p σ2 hk hk' hf hp hd hinv hu => ?_)
    · obtain rfl : k' = 0 := by omega
      rw [dB_first] at hf; cases hf
    obtain rfl : k' = 0 := by omega
    have hj : j = 2 := by rw [dB_first] at hf; injection hf with hf; exact hf.symm
    subst hj
    obtain rfl : p = 0 := by rw [dB_free] at hp; simpa using hp
    refine ent_draw ?_
    refine ent_drS ?_
    refine ent_load (s := .agg [kU, kI, kI]) (b := w) (off := 0) ((σ1.base : Int), (σ1.limit : Int), (σ1.order : Int), ()) (.there .here) (fun i v hv => by rw [Nat.zero_add]; exact get_pre (vs := wRow σ1.base σ1.limit σ1.order s m b dA.O dA.pages fs ls) ⟨_, rfl⟩ i v hv) ?_
    refine ent_drS ?_
    refine ent_ld (some ⟨s, 0, none⟩) ?_
    refine ent_drS ?_
    refine ent_ld (some ⟨m, 0, none⟩) ?_
    refine ent_drS ?_
    refine ent_ld (some ⟨b, 0, none⟩) ?_
    refine ent_G (fun μ heads R => ?_)
    have hmu : μ.order = σ2.order := R.ok.order
    have ho2 : σ2.order = 2 := by rw [hu.order, ho]
    have hX : (tab (σ2.order + 1) fun k => (heads k : Int)) = [69632, 73728, 0] := by
      have h0 : heads 0 = _ := R.heads 0 (by decide)
      have h1 : heads 1 = _ := R.heads 1 (by decide)
      have h2 : heads 2 = _ := R.heads 2 (by decide)
      rw [dC_free.1] at h0
      rw [dC_free.2.1] at h1
      rw [dC_free.2.2] at h2
      have a0 : heads 0 = 69632 := by rw [h0]; show σ2.base + 4096 * 1 = _; rw [hu.base, hb]
      have a1 : heads 1 = 73728 := by rw [h1]; show σ2.base + 4096 * 2 = _; rw [hu.base, hb]
      have a2 : heads 2 = 0 := h2
      rw [ho2]
      show [((heads 0 : Nat) : Int), ((heads 1 : Nat) : Int), ((heads 2 : Nat) : Int)] = _
      rw [a0, a1, a2]; rfl
    refine heads_ct (B := ⟨σ2, μ, heads⟩) fun q18 => ?_
    refine ent_keepB (ent_keepB ?_)
    refine ent_keepP (b := w) (ent_keep0 ?_) (get_pre (vs := wRow σ1.base σ1.limit σ1.order s m b dA.O dA.pages fs ls) ⟨_, rfl⟩) (.there (.there .here))
    refine ent_B (fun okb => ?_) (.there .here)
    refine openB_ct (σ := σ2) (μ := μ) (q := q18) (n := σ2.order + 1) (f := heads) (by rw [hu.base]) (by rw [hu.limit]) (by rw [hu.order]) hmu (by omega) (fun i hi => okb.heads i (by show i ≤ σ2.order; omega)) (fun _ b2 => ?_) (fun c => absurd rfl c) (.there (.there (.there .here)))
    refine ent_sub (l' := isB b2 s m ⟨σ2, μ, heads⟩ :: isBud b s m σ2.base σ2.limit σ2.order heads :: wBlk w b s m σ1 dA fs ls :: l) (by repeat (first | exact Sub.refl | refine Sub.cons (by with_reducible first | assumption | ((repeat (first | exact .here | apply Take.there)); done)) ?_ | refine Sub.drop ?_)) ?_
    refine ent_swap (B := ⟨σ2, μ, heads⟩) ?_
    refine ent_draw ?_
    refine ent_eq (fun _ => ?_) (fun c => absurd (show ((σ1.ad 0 : Nat) : Int) = 65536 by unfold Sp.ad; rw [hb]; rfl) c)
    refine ent_eq (fun _ => ?_) (fun c => absurd rfl c)
    refine ent_drS ?_
    refine ent_ld (some ⟨b, 0, none⟩) ?_
    refine ent_both ?_ (ent_new fun x36 => ?_)
    · refine heads_ct (b := b) (B := ⟨σ2, μ, heads⟩) fun q22 => ?_
      refine ent_new fun x23 => ?_
      refine ent_sub (l' := arr 22 sU ⟨some ⟨x23, 0, none⟩, 3, 3⟩ [69632, 73728, 0] :: arr 22 sU q22 (tab (σ2.order + 1) fun k => (heads k : Int)) :: isB b s m ⟨σ2, μ, heads⟩ :: isBud b2 s m σ2.base σ2.limit σ2.order heads :: wBlk w b s m σ1 dA fs ls :: l)
        (Sub.arr .here rfl (Nat.le_refl _) ⟨[], rfl⟩ (by decide) .refl) ?_
      refine ints_ct (q1 := q22) (q2 := ⟨some ⟨x23, 0, none⟩, 3, 3⟩) (xs := tab (σ2.order + 1) fun k => (heads k : Int)) (ys := [69632, 73728, 0]) (by rw [hX]; decide) (fun t ht => ?_) (.there .here) .here
      obtain rfl : t = true := ht.2 hX
      refine ent_cond (fun _ => ?_) (fun c => Bool.noConfusion (show true = false from c))
      refine ent_eq (fun _ => ?_) (fun c => absurd rfl c)
      refine ent_nilP (el := 146) (by kernel_rfl) ?_
      refine ent_not (fun _ => ?_) (fun c => Bool.noConfusion (show false = true from c))
      refine ent_drS ?_
      refine ent_ld (some ⟨b, 0, none⟩) ?_
      refine ent_sub (l' := isB b s m ⟨σ2, μ, heads⟩ :: isBud b2 s m σ2.base σ2.limit σ2.order heads :: wBlk w b s m σ1 dA fs ls :: l) (by repeat (first | exact Sub.refl | refine Sub.cons (by with_reducible first | assumption | ((repeat (first | exact .here | apply Take.there)); done)) ?_ | refine Sub.drop ?_)) ?_
      refine ent_swap (B := ⟨σ2, μ, heads⟩) ?_
      refine heads_ct (b := b2) (B := ⟨σ2, μ, heads⟩) fun q28 => ?_
      refine ent_keepB (ent_keep0 ?_)
      refine ent_sub (l' := isB b2 s m ⟨σ2, μ, heads⟩ :: isBud b s m σ2.base σ2.limit σ2.order heads :: arr 22 sU q28 (tab (σ2.order + 1) fun k => (heads k : Int)) :: l) (by repeat (first | exact Sub.refl | refine Sub.cons (by with_reducible first | assumption | ((repeat (first | exact .here | apply Take.there)); done)) ?_ | refine Sub.drop ?_)) ?_
      refine ent_swap (B := ⟨σ2, μ, heads⟩) ?_
      refine heads_ct (b := b) (B := ⟨σ2, μ, heads⟩) fun q29 => ?_
      refine ints_ct (q1 := q28) (q2 := q29) (xs := tab (σ2.order + 1) fun k => (heads k : Int)) (ys := tab (σ2.order + 1) fun k => (heads k : Int)) (by rw [hX]; decide) (fun t ht => ?_) (.there (.there (.there .here))) .here
      obtain rfl : t = true := ht.2 rfl
      exact ent_sub (Sub.trans (by repeat (first | exact Sub.refl | refine Sub.cons (by with_reducible first | assumption | ((repeat (first | exact .here | apply Take.there)); done)) ?_ | refine Sub.drop ?_)) (Sub.refl : Sub l l)) h
    · refine ent_keepB (ent_keep0 ?_)
      refine heads_ct (b := b) (B := ⟨σ2, μ, heads⟩) fun q22 => ?_
      refine ent_sub (l' := arr 22 sU ⟨some ⟨x36, 0, none⟩, 3, 3⟩ [69632, 73728, 0] :: arr 22 sU q22 (tab (σ2.order + 1) fun k => (heads k : Int)) :: isB b s m ⟨σ2, μ, heads⟩ :: isBud b2 s m σ2.base σ2.limit σ2.order heads :: wBlk w b s m σ1 dA fs ls :: l)
        (Sub.arr (.there .here) rfl (Nat.le_refl _) ⟨[], rfl⟩ (by decide) .refl) ?_
      refine ints_ct (q1 := q22) (q2 := ⟨some ⟨x36, 0, none⟩, 3, 3⟩) (xs := tab (σ2.order + 1) fun k => (heads k : Int)) (ys := [69632, 73728, 0]) (by rw [hX]; decide) (fun t ht => ?_) (.there .here) .here
      obtain rfl : t = true := ht.2 hX
      refine ent_cond (fun _ => ?_) (fun c => Bool.noConfusion (show true = false from c))
      refine ent_eq (fun _ => ?_) (fun c => absurd rfl c)
      refine ent_nilP (el := 146) (by kernel_rfl) ?_
      refine ent_not (fun _ => ?_) (fun c => Bool.noConfusion (show false = true from c))
      refine ent_drS ?_
      refine ent_ld (some ⟨b, 0, none⟩) ?_
      refine ent_sub (l' := isB b s m ⟨σ2, μ, heads⟩ :: isBud b2 s m σ2.base σ2.limit σ2.order heads :: wBlk w b s m σ1 dA fs ls :: l) (by repeat (first | exact Sub.refl | refine Sub.cons (by with_reducible first | assumption | ((repeat (first | exact .here | apply Take.there)); done)) ?_ | refine Sub.drop ?_)) ?_
      refine ent_swap (B := ⟨σ2, μ, heads⟩) ?_
      refine heads_ct (b := b2) (B := ⟨σ2, μ, heads⟩) fun q28 => ?_
      refine ent_keepB (ent_keep0 ?_)
      refine ent_sub (l' := isB b2 s m ⟨σ2, μ, heads⟩ :: isBud b s m σ2.base σ2.limit σ2.order heads :: arr 22 sU q28 (tab (σ2.order + 1) fun k => (heads k : Int)) :: l) (by repeat (first | exact Sub.refl | refine Sub.cons (by with_reducible first | assumption | ((repeat (first | exact .here | apply Take.there)); done)) ?_ | refine Sub.drop ?_)) ?_
      refine ent_swap (B := ⟨σ2, μ, heads⟩) ?_
      refine heads_ct (b := b) (B := ⟨σ2, μ, heads⟩) fun q29 => ?_
      refine ints_ct (q1 := q28) (q2 := q29) (xs := tab (σ2.order + 1) fun k => (heads k : Int)) (ys := tab (σ2.order + 1) fun k => (heads k : Int)) (by rw [hX]; decide) (fun t ht => ?_) (.there (.there (.there .here))) .here
      obtain rfl : t = true := ht.2 rfl
      exact ent_sub (Sub.trans (by repeat (first | exact Sub.refl | refine Sub.cons (by with_reducible first | assumption | ((repeat (first | exact .here | apply Take.there)); done)) ?_ | refine Sub.drop ?_)) (Sub.refl : Sub l l)) h

end Go.Proofs.Ytdmfnlcbfmahhaa
