/- A page map, a pool, of plain data. -/
import Derived.Test.YtdmfnlcbfmahhaaReadC
import Derived.Test.YtdmfnlcbfmahhaaGoodC
import Derived.Test.YtdmfnlcbfmahhaaRefC
namespace Go.Proofs.Ytdmfnlcbfmahhaa
open Go Hl Bd
set_option maxRecDepth 100000

variable {e : Still} {l r r1 r2 : List HP}

def fitsP (p : Pg) (O n : Nat) : Prop := (0 ≤ Pg.kind p ∧ Pg.kind p ≤ 4) ∧ (0 ≤ Pg.order p ∧ Pg.order p ≤ (O : Int)) ∧ (0 ≤ Pg.cls p ∧ Pg.cls p ≤ 7) ∧ (0 ≤ Pg.live p ∧ Pg.live p ≤ 256) ∧
  (-1 ≤ Pg.next p ∧ Pg.next p ≤ (n : Int) - 1) ∧ (-1 ≤ Pg.prev p ∧ Pg.prev p ≤ (n : Int) - 1) ∧ (-1 ≤ Pg.first p ∧ Pg.first p ≤ 255)

theorem fits_ct {p : Pg} {K : Tup [sB] → World → Prop} {KP : List PanicEntry → World → Prop} (O n : Nat) (hn : n ≤ 100000) (h1 : fitsP p O n → ent e l (K (true, ()))) (h2 : ¬ fitsP p O n → ent e l (K (false, ()))) :
    ent e l ((wpM PR).call 125 [.agg #[vI (Pg.kind p), vI (Pg.order p), vI (Pg.cls p), vI (Pg.live p), vI (Pg.next p), vI (Pg.prev p), vI (Pg.first p), vU (Pg.b0 p), vU (Pg.b1 p), vU (Pg.b2 p), vU (Pg.b3 p)], vI (O : Int), vI (n : Int)] [sB] K KP) := by
  refine ent_call (fn := Go.Proofs.Try.f125) (by kernel_rfl) ?_
  rw [nf125_eq]
  have hw : wI ((n : Int) - 1) = (n : Int) - 1 := by rw [wI_of (by omega) (by omega)]
  refine ent_new fun x1 => ?_
  refine ent_ld (Pg.kind p) ?_
  refine within_ct (fun a1 b1 => ent_true ?_) (fun c => ent_false (ent_drop (h2 fun f => by have := f.1; omega)))
  refine ent_ld (Pg.order p) ?_
  refine within_ct (fun a2 b2 => ent_true ?_) (fun c => ent_false (ent_drop (h2 fun f => by have := f.2.1; omega)))
  refine ent_ld (Pg.cls p) ?_
  refine within_ct (fun a3 b3 => ent_true ?_) (fun c => ent_false (ent_drop (h2 fun f => by have := f.2.2.1; omega)))
  refine ent_ld (Pg.live p) ?_
  refine within_ct (fun a4 b4 => ent_true ?_) (fun c => ent_false (ent_drop (h2 fun f => by have := f.2.2.2.1; omega)))
  refine ent_ld (Pg.next p) ?_
  refine within_ct (fun a5 b5 => ent_true ?_) (fun c => ent_false (ent_drop (h2 fun f => by have := f.2.2.2.2.1; rw [hw] at c; omega)))
  refine ent_ld (Pg.prev p) ?_
  refine within_ct (fun a6 b6 => ent_true ?_) (fun c => ent_false (ent_drop (h2 fun f => by have := f.2.2.2.2.2.1; rw [hw] at c; omega)))
  refine ent_ld (Pg.first p) ?_
  rw [hw] at b5 b6
  refine within_ct (fun a7 b7 => ent_drop (h1 ⟨⟨a1, b1⟩, ⟨a2, b2⟩, ⟨a3, b3⟩, ⟨a4, b4⟩, ⟨a5, b5⟩, ⟨a6, b6⟩, ⟨a7, b7⟩⟩)) (fun c => ent_drop (h2 fun f => by have := f.2.2.2.2.2.2; omega))

theorem shlI_eq {k : Nat} (h : k ≤ 12) : wI (1 * 2 ^ min (k : Int).toNat 64) = ((2 ^ k : Nat) : Int) := by
  have := shl_eq h
  rwa [wU_nat (by omega)] at this

abbrev bitsOf (ws : List Nat) : Nat → Bool := fun i => (ws.getD (i / 64) 0).testBit (i % 64)

theorem words_len {a : Nat} (h : a ≤ 1024) : wI ((wI ((a : Int) + 63)).tdiv 64) = (((a + 63) / 64 : Nat) : Int) := by
  rw [show wI ((a : Int) + 63) = ((a + 63 : Nat) : Int) by rw [wI_of (by omega) (by omega)]; omega,
    show ((a + 63 : Nat) : Int).tdiv 64 = (((a + 63) / 64 : Nat) : Int) from rfl, wI_nat (by omega)]

/-- What a map may be opened on. -/
structure MapForm (O : Nat) (xs : List Pg) (n : Nat) (pw : Nat → List Nat) : Prop where
  order : O ≤ 8
  pages : xs.length ≤ 1024
  whole : xs.length % 2 ^ O = 0
  pairs : n = O
  words : ∀ k, k < n → (pw k).length = (xs.length / 2 ^ (k + 1) + 63) / 64
  fits : ∀ x ∈ xs, fitsP x O xs.length

def Pg.words (p : Pg) : Prop := (0 ≤ Pg.b0 p ∧ Pg.b0 p < 18446744073709551616) ∧ (0 ≤ Pg.b1 p ∧ Pg.b1 p < 18446744073709551616) ∧ (0 ≤ Pg.b2 p ∧ Pg.b2 p < 18446744073709551616) ∧ (0 ≤ Pg.b3 p ∧ Pg.b3 p < 18446744073709551616)

theorem fitsP.fit {p : Pg} {O n : Nat} (h : fitsP p O n) (hn : n ≤ 1024) (hw : Pg.words p) : FitPg O p := by
  obtain ⟨h1, h2, h3, h4, h5, h6, h7⟩ := h
  obtain ⟨w0, w1, w2, w3⟩ := hw
  exact ⟨h1.1, h1.2, h2.1, h2.2, h3.1, h3.2, h5.1, by omega, h6.1, by omega, h7.1, h7.2, w0, w1, w2, w3, by omega, by omega⟩

theorem mapOpen_ct {z : Int} {q1 q2 : Sl} {xs : List Pg} {n : Nat} {pq : Nat → Sl} {pw : Nat → List Nat} {K : Tup [sP, sI] → World → Prop} {KP : List PanicEntry → World → Prop}
    (hx : xs.length ≤ 100000) (hn : n ≤ 100000) (hpw : ∀ k, k < n → ∀ v ∈ pw k, v < 2 ^ 64) (hwd : ∀ x ∈ xs, Pg.words x)
    (h1 : ∀ O : Nat, z = O → MapForm O xs n pw → ∀ m, ent e (isMap m ⟨O, xs.length, fun p => xs.getD p pg0, fun k => bitsOf (pw k)⟩ :: r) (K (some ⟨m, 0, none⟩, 0, ())))
    (h2 : (∀ O : Nat, z = O → ¬ MapForm O xs n pw) → ent e r (K (none, 7, ())))
    (k1 : Take l (arr 57 sPg q1 xs) r1 := by with_reducible first | assumption | ((repeat (first | exact .here | apply Take.there)); done)) (k2 : Take r1 (arr 59 sS q2 (tab n pq)) r2 := by with_reducible first | assumption | ((repeat (first | exact .here | apply Take.there)); done)) (k3 : Take r2 (each n fun k => arr 22 sU (pq k) ((pw k).map fun w : Nat => (w : Int))) r := by with_reducible first | assumption | ((repeat (first | exact .here | apply Take.there)); done)) :
    ent e l ((wpM PR).call 89 [vI z, .slice q1.base q1.len q1.cap, .slice q2.base q2.len q2.cap] [sP, sI] K KP) := by
  refine ent_call (fn := Go.Proofs.Try.f89) (by kernel_rfl) ?_
  rw [nf89_eq]
  refine ent_sub (l' := arr 57 sPg q1 xs :: arr 59 sS q2 (tab n pq) :: each n (fun k => arr 22 sU (pq k) ((pw k).map fun w : Nat => (w : Int))) :: r) (Sub.cons k1 (Sub.cons k2 (Sub.cons k3 .refl))) ?_
  refine ent_len (sh := sPg) (xs := xs) .here fun hl1 => ?_
  refine ent_len (sh := sS) (xs := tab n pq) (.there .here) fun hl2 => ?_
  rw [tab_len] at hl2
  have no : ∀ {l' : List HP}, Sub l' r → (∀ O : Nat, z = O → ¬ MapForm O xs n pw) → ent e l' (K (none, 7, ())) := fun hs hno => ent_sub hs (h2 hno)
  refine ent_joinP (A := Nat) (fun O x => x = (none, 0, ()) ∧ z = O ∧ O ≤ 8 ∧ xs.length ≤ 1024 ∧ xs.length % 2 ^ O = 0 ∧ n = O) (fun _ => arr 57 sPg q1 xs :: arr 59 sS q2 (tab n pq) :: each n (fun k => arr 22 sU (pq k) ((pw k).map fun w : Nat => (w : Int))) :: r) (fun O x1 hx1 => ?_) (fun k21 h21 => ?_)
  rotate_left
  · refine within_ct (fun a b => ?_) (fun c => ent_not (fun _ => no (by repeat (first | exact Sub.refl | refine Sub.cons (by with_reducible first | assumption | ((repeat (first | exact .here | apply Take.there)); done)) ?_ | refine Sub.drop ?_)) fun O hO f => by have := f.order; omega) (fun c => Bool.noConfusion (show false = true from c)))
    obtain ⟨O, rfl⟩ : ∃ O : Nat, z = O := ⟨z.toNat, by omega⟩
    have hp8 := pow_le8 (show O ≤ 8 by omega)
    have hp0 : 0 < 2 ^ O := Nat.pow_pos (by omega)
    refine ent_not (fun c => Bool.noConfusion (show true = false from c)) (fun _ => ?_)
    refine ent_gt (fun c => no (by repeat (first | exact Sub.refl | refine Sub.cons (by with_reducible first | assumption | ((repeat (first | exact .here | apply Take.there)); done)) ?_ | refine Sub.drop ?_)) fun O' hO f => ?_) (fun c => ?_)
    · have c : (1024 : Int) < (q1.len : Int) := c
      have := f.pages; omega
    have c : (q1.len : Int) ≤ 1024 := c
    refine ent_g0 a ?_
    rw [shlI_eq (by omega)]
    refine ent_gn (by omega) ?_
    rw [tmod_nat]
    refine ent_ne (fun c2 => no (by repeat (first | exact Sub.refl | refine Sub.cons (by with_reducible first | assumption | ((repeat (first | exact .here | apply Take.there)); done)) ?_ | refine Sub.drop ?_)) fun O' hO f => ?_) (fun c2 => ?_)
    · obtain rfl : O = O' := by omega
      have := f.whole
      rw [hl1, this] at c2
      exact absurd rfl c2
    have c2 : ((q1.len % 2 ^ O : Nat) : Int) = 0 := c2
    refine ent_ne (fun c3 => no (by repeat (first | exact Sub.refl | refine Sub.cons (by with_reducible first | assumption | ((repeat (first | exact .here | apply Take.there)); done)) ?_ | refine Sub.drop ?_)) fun O' hO f => ?_) (fun c3 => ?_)
    · have c3 : ¬ ((q2.len : Nat) : Int) = (O : Int) := c3
      have := f.pairs; omega
    have c3 : ((q2.len : Nat) : Int) = (O : Int) := c3
    exact h21 O _ ⟨rfl, rfl, by omega, by omega, by rw [← hl1]; omega, by omega⟩
  obtain ⟨rfl, rfl, hO, hpg, hwh, rfl⟩ := hx1
  have hp8 := pow_le8 hO
  have hp0 : 0 < 2 ^ n := Nat.pow_pos (by omega)
  refine ent_sub (l' := arr 57 sPg ⟨none, 0, 0⟩ [] :: arr 57 sPg q1 xs :: arr 59 sS q2 (tab n pq) :: each n (fun k => arr 22 sU (pq k) ((pw k).map fun w : Nat => (w : Int))) :: r) (Sub.arr_nil .refl) ?_
  refine ent_append2 (s := ⟨none, 0, 0⟩) (xs := []) (ys := xs) pg_elem rfl (by decide) .here .here (by simp; omega) (by simp; omega) fun x2 _ => ?_
  rw [List.nil_append]
  refine ent_new fun m => ?_
  refine ent_loop (S := Nat × Sl × (Nat → Nat)) (fun j => (none, 0, (j.1 : Int), ())) (fun j => blk m 162 [vI (n : Int), .slice x2.base x2.len x2.cap, .slice j.2.1.base j.2.1.len j.2.1.cap] ::
      arr 179 sP j.2.1 (tab j.1 fun i => (some ⟨j.2.2 i, 0, none⟩ : Option Addr)) :: each j.1 (fun i => isSet (j.2.2 i) (xs.length / 2 ^ (i + 1)) (bitsOf (pw i))) ::
      arr 57 sPg x2 xs :: arr 57 sPg q1 xs :: arr 59 sS q2 (tab n pq) :: each n (fun k => arr 22 sU (pq k) ((pw k).map fun w : Nat => (w : Int))) :: r)
    (fun j => j.1 ≤ n ∧ ∀ i, i < j.1 → (pw i).length = (xs.length / 2 ^ (i + 1) + 63) / 64) (fun j => n - j.1) (0, ⟨none, 0, 0⟩, fun _ => 0) rfl ⟨Nat.zero_le _, fun i hi => absurd hi (Nat.not_lt_zero _)⟩ ?_ ?_
  · intro hh y
    exact star_mono (fun _ z => z) (fun _ z => emp_star_arr (emp_star_each z)) y
  rintro kk ⟨k, qs, ptrs⟩ ⟨hk, hlen⟩ hkk
  simp only at hk hlen hkk ⊢
  refine ent_lt (fun c => ?_) (fun c => ?_)
  · have hkn : k < n := by have c : (k : Int) < (q2.len : Int) := c; omega
    have hpk : 0 < 2 ^ (k + 1) := Nat.pow_pos (by omega)
    have hdiv : xs.length / 2 ^ (k + 1) ≤ 1024 := Nat.le_trans (Nat.div_le_self _ _) hpg
    refine ent_atT (sh := sS) (f := pq) k rfl hkn ?_
    rw [wI_succ (by omega)]
    refine ent_g0 (by omega) ?_
    have hfd : ((q1.len : Nat) : Int).fdiv (2 ^ min ((k + 1 : Nat) : Int).toNat 64) = ((xs.length / 2 ^ (k + 1) : Nat) : Int) := by
      rw [hl1, Int.toNat_natCast, Nat.min_eq_left (by omega), show (2 : Int) ^ (k + 1) = ((2 ^ (k + 1) : Nat) : Int) from (Int.natCast_pow 2 (k + 1)).symm]
      exact (Int.fdiv_eq_ediv_of_nonneg _ (by omega)).trans (Int.natCast_ediv _ _).symm
    rw [hfd, words_len hdiv]
    refine ent_each k hkn ?_
    refine ent_len (sh := sU) (xs := (pw k).map fun w : Nat => (w : Int)) .here fun hlk => ?_
    rw [List.length_map] at hlk
    refine ent_ne (fun c2 => no (by repeat (first | exact Sub.refl | refine Sub.cons (by with_reducible first | assumption | ((repeat (first | exact .here | apply Take.there)); done)) ?_ | refine Sub.drop ?_)) fun O' hO' f => ?_) (fun c2 => ?_)
    · have := f.words k hkn
      exact absurd (show (((pq k).len : Nat) : Int) = (((xs.length / 2 ^ (k + 1) + 63) / 64 : Nat) : Int) by rw [hlk, this]) c2
    have c2 : (((pq k).len : Nat) : Int) = (((xs.length / 2 ^ (k + 1) + 63) / 64 : Nat) : Int) := c2
    refine ent_draw ?_
    refine ent_ld qs ?_
    refine ofBits_ct (sw := pq k) (ws := pw k) (xs.length / 2 ^ (k + 1)) rfl hdiv (hpw k hkn) fun sb => ?_
    refine ent_keepB (ent_keep0 ?_)
    refine ent_new fun x10 => ?_
    refine ent_keepB (ent_keep0 ?_)
    refine ent_append1 (xs := tab k fun i => (some ⟨ptrs i, 0, none⟩ : Option Addr)) sets_elem rfl (by decide) (some ⟨sb, 0, none⟩ : Option Addr) (.there (.there (.there (.there (.there .here))))) .here rfl (by rw [tab_len]; omega) (by rw [tab_len]; omega) fun x11 _ => ?_
    refine ent_st ?_
    refine ent_blk [vI (n : Int), .slice x2.base x2.len x2.cap, .slice x11.base x11.len x11.cap] ?_
    refine ent_sub ?_ (hkk (k + 1, x11, fun i => if i = k then sb else ptrs i) ⟨hkn, fun i hi => ?_⟩ (by simp only; omega))
    · have e1 : (tab k fun i => (some ⟨ptrs i, 0, none⟩ : Option Addr)) ++ [(some ⟨sb, 0, none⟩ : Option Addr)] = tab (k + 1) fun i => (some ⟨if i = k then sb else ptrs i, 0, none⟩ : Option Addr) := by
        rw [tab_snoc]
        refine tab_congr fun i _ => ?_
        unfold set1
        split <;> rfl
      simp only
      rw [← e1]
      refine Sub.cons (by with_reducible first | assumption | ((repeat (first | exact .here | apply Take.there)); done)) (Sub.cons (by with_reducible first | assumption | ((repeat (first | exact .here | apply Take.there)); done)) (Sub.each_snoc ?_))
      rw [if_pos rfl]
      refine Sub.cons (by with_reducible first | assumption | ((repeat (first | exact .here | apply Take.there)); done)) (Sub.each_congr (f := fun i => isSet (ptrs i) (xs.length / 2 ^ (i + 1)) (bitsOf (pw i))) (fun i hi => by rw [if_neg (by omega)]) (Sub.cons (by with_reducible first | assumption | ((repeat (first | exact .here | apply Take.there)); done)) (Sub.cons (by with_reducible first | assumption | ((repeat (first | exact .here | apply Take.there)); done)) (Sub.cons (by with_reducible first | assumption | ((repeat (first | exact .here | apply Take.there)); done)) (Sub.cons (by with_reducible first | assumption | ((repeat (first | exact .here | apply Take.there)); done)) ?_)))))
      exact Sub.each hkn (fun _ _ _ => rfl) (by repeat (first | exact Sub.refl | refine Sub.cons (by with_reducible first | assumption | ((repeat (first | exact .here | apply Take.there)); done)) ?_ | refine Sub.drop ?_))
    · by_cases hik : i = k
      · subst hik; omega
      · exact hlen i (by simp only at hi; omega)
  · obtain rfl : k = n := by have c : (q2.len : Int) ≤ (k : Int) := c; omega
    refine ent_sub (l' := blk m 162 [vI (k : Int), .slice x2.base x2.len x2.cap, .slice qs.base qs.len qs.cap] ::
      arr 179 sP qs (tab k fun i => (some ⟨ptrs i, 0, none⟩ : Option Addr)) :: each k (fun i => isSet (ptrs i) (xs.length / 2 ^ (i + 1)) (bitsOf (pw i))) ::
      arr 57 sPg x2 xs :: arr 57 sPg q1 xs :: r) (by repeat (first | exact Sub.refl | refine Sub.cons (by with_reducible first | assumption | ((repeat (first | exact .here | apply Take.there)); done)) ?_ | refine Sub.drop ?_)) ?_
    refine ent_loop (S := Nat) (fun i => (none, 0, (i : Int), ())) (fun _ => blk m 162 [vI (k : Int), .slice x2.base x2.len x2.cap, .slice qs.base qs.len qs.cap] ::
      arr 179 sP qs (tab k fun i => (some ⟨ptrs i, 0, none⟩ : Option Addr)) :: each k (fun i => isSet (ptrs i) (xs.length / 2 ^ (i + 1)) (bitsOf (pw i))) ::
      arr 57 sPg x2 xs :: arr 57 sPg q1 xs :: r) (fun i => i ≤ xs.length ∧ ∀ x ∈ xs.take i, fitsP x k xs.length) (fun i => xs.length - i) 0 rfl ⟨Nat.zero_le _, fun x hx => by simp at hx⟩ (fun _ y => y) ?_
    rintro kk2 i ⟨hi, hfi⟩ hkk2
    refine ent_lt (fun c2 => ?_) (fun c2 => ?_)
    · have hix : i < xs.length := by have c2 : (i : Int) < (q1.len : Int) := c2; omega
      obtain ⟨px, hpx⟩ : ∃ px, px = xs[i] := ⟨_, rfl⟩
      refine ent_at (sh := sPg) (xs := xs) i px rfl (by rw [hpx]; exact List.getElem?_eq_getElem hix) ?_ (.there (.there (.there (.there .here))))
      refine ent_new fun x17 => ?_
      refine ent_st ?_
      refine ent_blk (Row.vals kPg px) ?_
      refine ent_ldA (ks := kPg) px ?_
      refine fits_ct (p := px) k q1.len (by omega) (fun hf => ?_) (fun hf => ?_) <;> rw [hl1] at hf
      · refine ent_not (fun c => Bool.noConfusion (show true = false from c)) (fun _ => ?_)
        show ent e _ (kk2 (none, 0, wI ((i : Int) + 1), ()))
        rw [wI_succ (by omega)]
        refine ent_drop (hkk2 (i + 1) ⟨hix, fun x hx => ?_⟩ (by omega))
        rw [List.take_add_one, List.getElem?_eq_getElem hix, List.mem_append] at hx
        rcases hx with hx | hx
        · exact hfi x hx
        · have : x = xs[i] := by simpa using hx
          rw [this, ← hpx]; exact hf
      · refine ent_not (fun _ => no (by repeat (first | exact Sub.refl | refine Sub.cons (by with_reducible first | assumption | ((repeat (first | exact .here | apply Take.there)); done)) ?_ | refine Sub.drop ?_)) fun O' hO' f => ?_) (fun c => Bool.noConfusion (show false = true from c))
        obtain rfl : k = O' := by omega
        exact hf (by rw [hpx]; exact f.fits _ (List.getElem_mem hix))
    · obtain rfl : i = xs.length := by have c2 : (q1.len : Int) ≤ (i : Int) := c2; omega
      rw [List.take_length] at hfi
      refine ent_sub ?_ (h1 k rfl ⟨hO, hpg, hwh, rfl, hlen, hfi⟩ m)
      have htab : tab xs.length (fun p => xs.getD p pg0) = xs := by
        apply List.ext_getElem?
        intro j
        by_cases hj : j < xs.length
        · rw [tab_get hj, List.getElem?_eq_getElem hj, List.getD_eq_getElem?_getD, List.getElem?_eq_getElem hj]; rfl
        · rw [List.getElem?_eq_none (by rw [tab_len]; omega), List.getElem?_eq_none (by omega)]
      refine sub_map (ps := x2) (qs := qs) (ptrs := ptrs) (O := k) (n := xs.length) (pages := fun p => xs.getD p pg0) (pairs := fun i => bitsOf (pw i)) _ ⟨hO, hpg, hwh, fun j hj => ?_⟩ ?_
      · have hj : j < xs.length := hj
        show FitPg k (xs.getD j pg0)
        rw [List.getD_eq_getElem?_getD, List.getElem?_eq_getElem hj]
        exact (hfi _ (List.getElem_mem hj)).fit hpg (hwd _ (List.getElem_mem hj))
      · rw [htab]
        exact (by repeat (first | exact Sub.refl | refine Sub.cons (by with_reducible first | assumption | ((repeat (first | exact .here | apply Take.there)); done)) ?_ | refine Sub.drop ?_))

/-! ## Bytes are written -/

theorem putNil_ct {s : Nat} {x : Int} {K : Tup [] → World → Prop} {KP : List PanicEntry → World → Prop} (h : ent e l (K ())) : ent e l ((wpM PR).call 101 [vP s, vU x, .slice none 0 0] [] K KP) := by
  refine ent_call (fn := Go.Proofs.Try.f101) (by kernel_rfl) ?_
  refine Eq.mp (congrArg (ent e l) (nf101_eq (wpM PR) s x ⟨none, 0, 0⟩ _ KP).symm) ?_
  refine ent_loop (S := Unit) (fun _ => (⟨none, 0, 0⟩, x, ())) (fun _ => l) (fun _ => True) (fun _ => 0) () rfl trivial (fun _ y => y) ?_
  intro kk _ _ _
  exact ent_gt (fun c => absurd c (by show ¬ ((0 : Int) < ((0 : Nat) : Int)); decide)) (fun _ => h)

theorem write_ct {s : Nat} {σ : Sp} {x : Int} {q : Sl} {K : Tup [sI] → World → Prop} {KP : List PanicEntry → World → Prop} (p : Nat) (bs : List Nat) (hx : x = p) (hp : p < 18446744073709551616) (hlen : bs.length < 9223372036854775808) (hb : ∀ b ∈ bs, b < 256)
    (h1 : σ.has p bs.length → ent e (isSpace s (σ.over p bs) :: r) (K (0, ()))) (h2 : ¬ σ.has p bs.length → ent e l (K (4, ())))
    (k : Take l (isSpace s σ) r := by with_reducible first | assumption | ((repeat (first | exact .here | apply Take.there)); done)) (kb : Take r (arr 5 s8 q (bs.map fun y : Nat => (y : Int))) r1 := by with_reducible first | assumption | ((repeat (first | exact .here | apply Take.there)); done)) :
    ent e l ((wpM PR).call 62 [vP s, vU x, .slice q.base q.len q.cap] [sI] K KP) := by
  subst hx
  refine ent_callD (C := 86) (G := 108) (fn := Go.Proofs.Try.f62) (gn := Go.Proofs.Try.f108) (by kernel_rfl)
    ⟨_, _, _, _, _, _, rfl⟩ (by kernel_rfl) ⟨⟨_, _, _, _, _, _, _, rfl⟩, rfl, rfl⟩ (by kernel_rfl) (by kernel_rfl) (by kernel_rfl) ?_
  rw [nf62_eq]
  refine ent_new fun qq => ?_
  refine ent_sub (l' := isSpace s σ :: arr 5 s8 q (bs.map fun y : Nat => (y : Int)) :: blk qq 29 [vI 0] :: r1) (Sub.cons (.there k) (Sub.cons (.there kb) (Sub.cons .here .refl))) ?_
  have back : Sub (isSpace s σ :: arr 5 s8 q (bs.map fun y : Nat => (y : Int)) :: r1) l := Sub.trans (Sub.cons .here (Sub.untake kb)) (Sub.untake k)
  refine ent_len (sh := s8) (xs := bs.map fun y : Nat => (y : Int)) (.there .here) fun hl => ?_
  rw [List.length_map] at hl
  refine look_ct p bs.length .here rfl (by rw [hl, wU_nat (by omega)]) (by omega) (fun h => ?_) (fun h => ?_)
  · have tail : ent e (isSpace s (σ.over p bs) :: blk qq 29 [vI 0] :: r) ((wpM PR).store ⟨qq, 0, none⟩ [vI 0] ((wpM PR).call 86 [.nilIface, vP qq] [] (fun _ => (wpM PR).load sI ⟨qq, 0, none⟩ fun x5 => K (x5, ())) fun _ => (wpM PR).fail)) := by
      refine ent_st ?_
      refine caught_nil_ct ?_
      refine ent_ld (0 : Int) ?_
      exact ent_sub (by repeat (first | exact Sub.refl | refine Sub.cons (by with_reducible first | assumption | ((repeat (first | exact .here | apply Take.there)); done)) ?_ | refine Sub.drop ?_)) (h1 h)
    refine ent_arr (.there .here) (fun e1 e2 => ?_) (fun g rest e1 e2 e3 => ?_)
    · subst e1
      have e2 : bs = [] := List.map_eq_nil_iff.1 e2
      subst e2
      refine putNil_ct ?_
      rw [show σ.over p [] = σ by unfold Sp.over; rw [over_nil]] at tail
      refine ent_sub ?_ tail
      refine Sub.cons .here (Sub.cons .here ?_)
      exact Sub.trans (Sub.arr_nil .refl) (Sub.untake kb)
    · rw [e1, List.length_map]
      refine put_ct (σ := σ) (c := q.cap) p bs (.there .here) rfl rfl h hp (by rw [List.length_map] at e2; exact e2) hb (fun w hw => ?_) ?_
      · refine hw.rowAt .here fun i u hu => ?_
        rw [Nat.zero_add, cellsOf_s8, List.map_map]
        rw [List.getElem?_append_left]
        · exact hu
        · have := (List.getElem?_eq_some_iff.1 hu).1
          simpa using this
      · refine ent_sub ?_ tail
        refine Sub.cons .here (Sub.cons (.there .here) ?_)
        refine Sub.trans ?_ (Sub.untake kb)
        rw [e1]
        exact Sub.arr .here rfl (by rw [List.length_map] at e2 ⊢; exact e2) ⟨rest, rfl⟩ e3 .refl
  · refine caught_ct (.there (.there .here)) ?_
    refine ent_ld (4 : Int) ?_
    exact ent_sub (Sub.drop back) (h2 h)

end Go.Proofs.Ytdmfnlcbfmahhaa
