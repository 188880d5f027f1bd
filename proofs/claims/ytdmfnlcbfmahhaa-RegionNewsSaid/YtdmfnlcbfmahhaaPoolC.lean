/- Pools: New, Open, Need. -/
import Derived.Test.YtdmfnlcbfmahhaaOpenC
import Derived.Test.YtdmfnlcbfmahhaaBe
import Derived.Test.YtdmfnlcbfmahhaaNfPool
namespace Go.Proofs.Ytdmfnlcbfmahhaa
open Go Hl Bd
set_option maxRecDepth 100000

variable {e : Still} {l r r1 r2 r3 r4 : List HP} {σ : Sp} {d : D} {S : Nat → Prop} {b s m : Nat}

abbrev isPool (p s m b : Nat) : HP := blk p 73 [vP s, vP m, vP b]

theorem regionNew_ct {x y z : Int} {K : Tup [sP, sI] → World → Prop} {KP : List PanicEntry → World → Prop} (hx : 0 ≤ x) (hx2 : x < 18446744073709551616)
    (h1 : ∀ b0 n k : Nat, Conf b0 n k → x = b0 → y = n → z = k → ∀ p s m b : Nat, ent e (isPool p s m b :: isG (fun _ => False) b s m ⟨b0, n, k, 0, fun _ => 0⟩ (D.new k) :: l) (K (some ⟨p, 0, none⟩, 0, ())))
    (h2 : ¬ isConf x y z → ent e l (K (none, 1, ()))) :
    ent e l ((wpM PR).call 33 [.agg #[vU x, vI y, vI z]] [sP, sI] K KP) := by
  refine ent_call (fn := Go.Proofs.Try.f33) (by kernel_rfl) ?_
  rw [nf33_eq]
  refine ent_new fun x1 => ?_
  refine ent_ldA (x, y, z, ()) ?_
  refine newSpace_ct hx hx2 (fun b0 n k e1 e2 e3 hc s => ?_) (fun hn => ?_)
  · subst e1 e2 e3
    refine ent_ne (fun c => absurd rfl c) (fun _ => ?_)
    refine ent_ld (k : Int) ?_
    refine newMap_ct k rfl hc.order fun m => ?_
    refine ent_ldA ((b0 : Int), (n : Int), (k : Int), ()) ?_
    refine newB_ct (σ := ⟨b0, n, k, 0, fun _ => 0⟩) (μ := ⟨k, 0, fun _ => pg0, fun _ _ => false⟩) rfl rfl rfl rfl fun b => ?_
    refine ent_B_ok (fun _ sok _ => ?_)
    refine ent_new fun p => ?_
    refine ent_sub ?_ (h1 b0 n k hc rfl rfl rfl p s m b)
    refine Sub.cons .here ?_
    exact sub_G (B := ⟨⟨b0, n, k, 0, fun _ => 0⟩, ⟨k, 0, fun _ => pg0, fun _ _ => false⟩, fun _ => 0⟩) (Rep.fresh sok) (by repeat (first | exact Sub.refl | refine Sub.cons (by with_reducible first | assumption | ((repeat (first | exact .here | apply Take.there)); done)) ?_ | refine Sub.drop ?_))
  · refine ent_ne (fun _ => ?_) (fun c => absurd (show (1 : Int) = 0 from c) (by decide))
    exact ent_sub (by repeat (first | exact Sub.refl | refine Sub.cons (by with_reducible first | assumption | ((repeat (first | exact .here | apply Take.there)); done)) ?_ | refine Sub.drop ?_)) (h2 hn)

theorem shlM_eq {a k : Nat} (ha : a ≤ 1099511627776) (h : k ≤ 12) : wI ((a : Int) * 2 ^ min (k : Int).toNat 64) = ((a * 2 ^ k : Nat) : Int) := by
  have hp : 2 ^ k ≤ 4096 := Nat.pow_le_pow_right (n := 2) (by omega) h
  have h2 : a * 2 ^ k ≤ 1099511627776 * 4096 := Nat.mul_le_mul ha hp
  rw [Int.toNat_natCast, Nat.min_eq_left (by omega), show (2 : Int) ^ k = ((2 ^ k : Nat) : Int) from (Int.natCast_pow 2 k).symm, ← Int.natCast_mul, wI_nat (by omega)]

structure OpenForm (lim O R : Nat) (bs : List Nat) (xs : List Pg) (n : Nat) (pw : Nat → List Nat) (nh : Nat) : Prop where
  regions : R ≤ lim
  bytes : bs.length = R * 4096 * 2 ^ O
  pages : xs.length = R * 2 ^ O
  map : MapForm O xs n pw
  heads : nh = O + 1

theorem regionOpen_ct {x y z a1 : Int} {q2 q3 q4 q5 : Sl} {bs : List Nat} {xs : List Pg} {n nh : Nat} {pq : Nat → Sl} {pw : Nat → List Nat} {f : Nat → Nat} {K : Tup [sP, sI] → World → Prop} {KP : List PanicEntry → World → Prop}
    (hx : 0 ≤ x) (hx2 : x < 18446744073709551616) (hbl : bs.length ≤ 1099511627776) (hb : ∀ b ∈ bs, b < 256) (hxs : xs.length ≤ 100000) (hn : n ≤ 100000) (hpw : ∀ k, k < n → ∀ v ∈ pw k, v < 2 ^ 64) (hwd : ∀ x ∈ xs, Pg.words x) (hnh : nh ≤ 100) (hf : ∀ i, i < nh → f i < 18446744073709551616)
    (h1 : ¬ isConf x y z → ent e r (K (none, 1, ())))
    (h2 : ∀ b0 lim O : Nat, Conf b0 lim O → x = b0 → y = lim → z = O → (∀ R : Nat, a1 = R → ¬ OpenForm lim O R bs xs n pw nh) → ent e r (K (none, 7, ())))
    (h3 : ∀ b0 lim O R : Nat, Conf b0 lim O → x = b0 → y = lim → z = O → a1 = R → OpenForm lim O R bs xs n pw nh → ∀ (p s m b : Nat) (σ : Sp), σ.base = b0 → σ.limit = lim → σ.order = O → σ.n = R → (∀ i, i < bs.length → σ.mem i = bs.getD i 0) →
      ent e (isPool p s m b :: isB b s m ⟨σ, ⟨O, xs.length, fun p => xs.getD p pg0, fun k => bitsOf (pw k)⟩, f⟩ :: r) (K (some ⟨p, 0, none⟩, 0, ())))
    (k2 : Take l (arr 5 s8 q2 (bs.map fun y : Nat => (y : Int))) r1 := by with_reducible first | assumption | ((repeat (first | exact .here | apply Take.there)); done)) (k3 : Take r1 (arr 57 sPg q3 xs) r2 := by with_reducible first | assumption | ((repeat (first | exact .here | apply Take.there)); done)) (k4 : Take r2 (arr 59 sS q4 (tab n pq)) r3 := by with_reducible first | assumption | ((repeat (first | exact .here | apply Take.there)); done))
    (k4w : Take r3 (each n fun k => arr 22 sU (pq k) ((pw k).map fun w : Nat => (w : Int))) r4 := by with_reducible first | assumption | ((repeat (first | exact .here | apply Take.there)); done)) (k5 : Take r4 (arr 22 sU q5 (tab nh fun i => (f i : Int))) r := by with_reducible first | assumption | ((repeat (first | exact .here | apply Take.there)); done)) :
    ent e l ((wpM PR).call 29 [.agg #[vU x, vI y, vI z], vI a1, .slice q2.base q2.len q2.cap, .slice q3.base q3.len q3.cap, .slice q4.base q4.len q4.cap, .slice q5.base q5.len q5.cap] [sP, sI] K KP) := by
  refine ent_call (fn := Go.Proofs.Try.f29) (by kernel_rfl) ?_
  rw [nf29_eq]
  refine ent_new fun x1 => ?_
  refine ent_sub (l' := blk x1 24 [vU x, vI y, vI z] :: arr 5 s8 q2 (bs.map fun y : Nat => (y : Int)) :: arr 57 sPg q3 xs :: arr 59 sS q4 (tab n pq) :: each n (fun k => arr 22 sU (pq k) ((pw k).map fun w : Nat => (w : Int))) :: arr 22 sU q5 (tab nh fun i => (f i : Int)) :: r)
    (Sub.cons .here (Sub.cons k2 (Sub.cons k3 (Sub.cons k4 (Sub.cons k4w (Sub.cons k5 .refl)))))) ?_
  refine ent_len (sh := s8) (xs := bs.map fun y : Nat => (y : Int)) (.there .here) fun hl2 => ?_
  refine ent_len (sh := sPg) (xs := xs) (.there (.there .here)) fun hl3 => ?_
  rw [List.length_map] at hl2
  refine ent_ldA (x, y, z, ()) ?_
  refine newSpace_ct hx hx2 (fun b0 lim O e1 e2 e3 hc s => ?_) (fun hno => ?_)
  rotate_left
  · refine ent_ne (fun _ => ?_) (fun c => absurd (show (1 : Int) = 0 from c) (by decide))
    exact ent_sub (by repeat (first | exact Sub.refl | refine Sub.cons (by with_reducible first | assumption | ((repeat (first | exact .here | apply Take.there)); done)) ?_ | refine Sub.drop ?_)) (h1 hno)
  subst e1 e2 e3
  have hO := hc.order
  have hlim := hc.limit
  have hp8 := pow_le8 hO
  have hp0 : 0 < 2 ^ O := Nat.pow_pos (by omega)
  have no : ∀ {l' : List HP}, Sub l' r → (∀ R : Nat, a1 = R → ¬ OpenForm lim O R bs xs n pw nh) → ent e l' (K (none, 7, ())) := fun hs hno => ent_sub hs (h2 b0 lim O hc rfl rfl rfl hno)
  refine ent_ne (fun c => absurd rfl c) (fun _ => ?_)
  refine ent_joinP (A := Nat) (fun R x => a1 = R ∧ R ≤ lim ∧ bs.length = R * 4096 * 2 ^ O ∧ xs.length = R * 2 ^ O) (fun _ => isSpace s ⟨b0, lim, O, 0, fun _ => 0⟩ :: blk x1 24 [vU b0, vI lim, vI O] :: arr 5 s8 q2 (bs.map fun y : Nat => (y : Int)) :: arr 57 sPg q3 xs :: arr 59 sS q4 (tab n pq) :: each n (fun k => arr 22 sU (pq k) ((pw k).map fun w : Nat => (w : Int))) :: arr 22 sU q5 (tab nh fun i => (f i : Int)) :: r) (fun R x4 hx4 => ?_) (fun k19 h19 => ?_)
  rotate_left
  · refine ent_lt (fun c => no (by repeat (first | exact Sub.refl | refine Sub.cons (by with_reducible first | assumption | ((repeat (first | exact .here | apply Take.there)); done)) ?_ | refine Sub.drop ?_)) fun R hR _ => by omega) (fun c => ?_)
    obtain ⟨R, rfl⟩ : ∃ R : Nat, a1 = R := ⟨a1.toNat, by omega⟩
    refine ent_ld (lim : Int) ?_
    refine ent_gt (fun c2 => no (by repeat (first | exact Sub.refl | refine Sub.cons (by with_reducible first | assumption | ((repeat (first | exact .here | apply Take.there)); done)) ?_ | refine Sub.drop ?_)) fun R' hR f => ?_) (fun c2 => ?_)
    · have c2 : (lim : Int) < (R : Int) := c2
      have := f.regions; omega
    have c2 : (R : Int) ≤ (lim : Int) := c2
    refine ent_ld (O : Int) ?_
    refine ent_g0 (by omega) ?_
    try dsimp only
    rw [show (R : Int) * 4096 = ((R * 4096 : Nat) : Int) by omega, wI_nat (by omega), shlM_eq (by omega) (by omega)]
    refine ent_ne (fun c3 => no (by repeat (first | exact Sub.refl | refine Sub.cons (by with_reducible first | assumption | ((repeat (first | exact .here | apply Take.there)); done)) ?_ | refine Sub.drop ?_)) fun R' hR f => ?_) (fun c3 => ?_)
    · obtain rfl : R = R' := by omega
      exact absurd (by rw [hl2, f.bytes]) c3
    have c3 : ((q2.len : Nat) : Int) = ((R * 4096 * 2 ^ O : Nat) : Int) := c3
    refine ent_ld (O : Int) ?_
    refine ent_g0 (by omega) ?_
    try dsimp only
    rw [shlM_eq (by omega) (by omega)]
    refine ent_ne (fun c4 => no (by repeat (first | exact Sub.refl | refine Sub.cons (by with_reducible first | assumption | ((repeat (first | exact .here | apply Take.there)); done)) ?_ | refine Sub.drop ?_)) fun R' hR f => ?_) (fun c4 => ?_)
    · obtain rfl : R = R' := by omega
      exact absurd (by rw [hl3, f.pages]) c4
    have c4 : ((q3.len : Nat) : Int) = ((R * 2 ^ O : Nat) : Int) := c4
    exact h19 R _ ⟨rfl, by omega, by omega, by omega⟩
  obtain ⟨rfl, hR, hbytes, hpages⟩ := hx4
  refine ent_ld (O : Int) ?_
  refine mapOpen_ct (q1 := q3) (q2 := q4) (xs := xs) (n := n) (pq := pq) (pw := pw) hxs hn hpw hwd (fun O' hO' mf m => ?_) (fun hno => ?_)
  rotate_left
  · refine ent_ne (fun _ => ?_) (fun c => absurd (show (7 : Int) = 0 from c) (by decide))
    exact no (by repeat (first | exact Sub.refl | refine Sub.cons (by with_reducible first | assumption | ((repeat (first | exact .here | apply Take.there)); done)) ?_ | refine Sub.drop ?_)) fun R' _ f => hno O rfl f.map
  obtain rfl : O = O' := by have hO' : (O : Int) = (O' : Int) := hO'; omega
  refine ent_ne (fun c => absurd rfl c) (fun _ => ?_)
  refine ent_loop (S := Nat × Sp) (fun j => ((j.1 : Int), ())) (fun j => isMap m ⟨O, xs.length, fun p => xs.getD p pg0, fun k => bitsOf (pw k)⟩ :: isSpace s j.2 :: blk x1 24 [vU b0, vI lim, vI O] :: arr 5 s8 q2 (bs.map fun y : Nat => (y : Int)) :: arr 22 sU q5 (tab nh fun i => (f i : Int)) :: r)
    (fun j => j.1 ≤ R ∧ j.2.base = b0 ∧ j.2.limit = lim ∧ j.2.order = O ∧ j.2.n = j.1) (fun j => R - j.1) (0, ⟨b0, lim, O, 0, fun _ => 0⟩) rfl ⟨Nat.zero_le _, rfl, rfl, rfl, rfl⟩ (fun _ y => y) ?_
  rintro kk ⟨j, τ⟩ ⟨hj, t1, t2, t3, t4⟩ hk
  simp only at hj t1 t2 t3 t4 hk ⊢
  refine ent_lt (fun c => ?_) (fun c => ?_)
  · have hjR : j < R := by have c : (j : Int) < (R : Int) := c; omega
    refine commit_ct (s := s) (σ := τ) (fun _ _ => ?_) (fun hbad => absurd hbad (by rintro (c | c); exact absurd c (by decide); omega)) (.there .here)
    show ent e _ (kk (wI ((j : Int) + 1), ()))
    rw [wI_succ (by omega)]
    refine ent_sub ?_ (hk (j + 1, τ.grown) ⟨by simp only; omega, t1, t2, t3, by show τ.n + 1 = j + 1; omega⟩ (by simp only; omega))
    exact Sub.cons (.there .here) (Sub.cons .here .refl)
  · obtain rfl : j = R := by have c : (R : Int) ≤ (j : Int) := c; omega
    refine ent_ld (b0 : Int) ?_
    have hb0 : b0 < 18446744073709551616 := by have := hc.top; omega
    refine write_ct (s := s) (σ := τ) (q := q2) b0 bs rfl hb0 (by omega) hb (fun hh => ?_) (fun hno => absurd ?_ hno)
    · refine ent_ldA ((b0 : Int), (lim : Int), (O : Int), ()) ?_
      refine openB_ct (σ := τ.over b0 bs) (μ := ⟨O, xs.length, fun p => xs.getD p pg0, fun k => bitsOf (pw k)⟩) (q := q5) (n := nh) (f := f) (by show (b0 : Int) = ((τ.base : Nat) : Int); rw [t1]) (by show (lim : Int) = ((τ.limit : Nat) : Int); rw [t2]) (by show (O : Int) = ((τ.order : Nat) : Int); rw [t3]) (by show O = τ.order; rw [t3]) hnh hf (fun he b => ?_) (fun he => ?_)
      · refine ent_ne (fun c => absurd rfl c) (fun _ => ?_)
        refine ent_new fun p => ?_
        have he : nh = O + 1 := by rw [he]; show τ.order + 1 = O + 1; rw [t3]
        refine ent_sub (by repeat (first | exact Sub.refl | refine Sub.cons (by with_reducible first | assumption | ((repeat (first | exact .here | apply Take.there)); done)) ?_ | refine Sub.drop ?_)) (h3 b0 lim O j hc rfl rfl rfl rfl ⟨hR, hbytes, hpages, mf, he⟩ p s m b (τ.over b0 bs) t1 t2 t3 t4 fun i hi => ?_)
        show Hl.over τ.mem (b0 - τ.base) bs i = _
        rw [t1, Nat.sub_self]
        have := over_in (f := τ.mem) (p := 0) hi
        rw [Nat.zero_add] at this
        rw [this, List.getD_eq_getElem?_getD, List.getElem?_eq_getElem hi]; rfl
      · refine ent_ne (fun _ => ?_) (fun c => absurd (show (7 : Int) = 0 from c) (by decide))
        refine no (by repeat (first | exact Sub.refl | refine Sub.cons (by with_reducible first | assumption | ((repeat (first | exact .here | apply Take.there)); done)) ?_ | refine Sub.drop ?_)) fun R' _ f' => he ?_
        rw [f'.heads]; show O + 1 = τ.order + 1; rw [t3]
    · right
      have h5 : τ.size * τ.n = j * 4096 * 2 ^ O := by unfold Sp.size; rw [t3, t4, Nat.mul_comm j, Nat.mul_right_comm]
      rw [t1, h5, ← hbytes]
      exact ⟨Nat.le_refl _, Nat.le_refl _⟩

end Go.Proofs.Ytdmfnlcbfmahhaa
