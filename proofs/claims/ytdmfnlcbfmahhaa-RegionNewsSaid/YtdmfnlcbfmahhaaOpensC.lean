/- RegionOpens, whatever the data. -/
import Derived.Test.YtdmfnlcbfmahhaaPoolD
import Derived.Test.YtdmfnlcbfmahhaaInC
namespace Go.Proofs.Ytdmfnlcbfmahhaa
open Go Hl Bd Go.RowKit
set_option maxRecDepth 100000

variable {W : World} {e : Still} {l r r1 r2 r3 r4 : List HP}

abbrev pg2 : Pg := (2, 0, 0, 0, -1, -1, -1, 0, 0, 0, 0, ())

theorem fits2 {O N : Nat} : fitsP pg2 O N := by
  refine ⟨⟨by decide, by decide⟩, ⟨by decide, ?_⟩, ⟨by decide, by decide⟩, ⟨by decide, by decide⟩, ⟨by decide, ?_⟩, ⟨by decide, ?_⟩, ⟨by decide, by decide⟩⟩
  · show (0 : Int) ≤ (O : Int); omega
  · show (-1 : Int) ≤ (N : Int) - 1; omega
  · show (-1 : Int) ≤ (N : Int) - 1; omega

theorem R_ct {x y : Int} {K : Tup [sU] → World → Prop} {KP : List PanicEntry → World → Prop} (O : Nat) (hO : O ≤ 12) (h : ent e l (K (((4096 * 2 ^ O : Nat) : Int), ()))) :
    ent e l ((wpM PR).call 31 [.agg #[vU x, vI y, vI (O : Int)]] [sU] K KP) := by
  refine ent_call (fn := Go.Proofs.Try.f31) (by kernel_rfl) ?_
  rw [nf31_eq]
  refine ent_new fun x1 => ?_
  refine ent_loop (S := Nat) (fun i => (((4096 * 2 ^ i : Nat) : Int), (i : Int), ())) (fun _ => blk x1 24 [vU x, vI y, vI (O : Int)] :: l) (fun i => i ≤ O) (fun i => O - i) 0 rfl (Nat.zero_le _) (fun _ y => y) ?_
  intro kk i hi hk
  have hp : 2 ^ i ≤ 4096 := Nat.pow_le_pow_right (n := 2) (by omega) (show i ≤ 12 by omega)
  refine ent_ld (O : Int) ?_
  refine ent_lt (fun c => ?_) (fun c => ?_)
  · have hik : i < O := by have c : (i : Int) < (O : Int) := c; omega
    show ent e _ (kk (wU (((4096 * 2 ^ i : Nat) : Int) * 2), wI ((i : Int) + 1), ()))
    rw [wI_succ (by omega), show wU (((4096 * 2 ^ i : Nat) : Int) * 2) = ((4096 * 2 ^ (i + 1) : Nat) : Int) by rw [wU_of (by omega) (by omega), Nat.pow_succ, ← Nat.mul_assoc]; omega]
    exact hk (i + 1) hik (by omega)
  · obtain rfl : i = O := by have c : (O : Int) ≤ (i : Int) := c; omega
    exact ent_drop h

theorem wI_two {a : Nat} (h : a ≤ 10000) : wI ((a : Int) * 2) = ((a * 2 : Nat) : Int) := by rw [wI_of (by omega) (by omega)]; omega

theorem power_ct {K : Tup [sI] → World → Prop} {KP : List PanicEntry → World → Prop} (O : Nat) (hO : O ≤ 12) (h : ent e l (K (((2 ^ O : Nat) : Int), ()))) :
    ent e l ((wpM PR).call 32 [vI (O : Int)] [sI] K KP) := by
  refine ent_call (fn := Go.Proofs.Try.f32) (by kernel_rfl) ?_
  rw [nf32_eq]
  refine ent_loop (S := Nat) (fun i => (((2 ^ i : Nat) : Int), (i : Int), ())) (fun _ => l) (fun i => i ≤ O) (fun i => O - i) 0 rfl (Nat.zero_le _) (fun _ y => y) ?_
  intro kk i hi hk
  have hp : 2 ^ i ≤ 4096 := Nat.pow_le_pow_right (n := 2) (by omega) (show i ≤ 12 by omega)
  refine ent_lt (fun c => ?_) (fun c => ?_)
  · have hik : i < O := by have c : (i : Int) < (O : Int) := c; omega
    show ent e _ (kk (wI (((2 ^ i : Nat) : Int) * 2), wI ((i : Int) + 1), ()))
    rw [wI_succ (by omega), wI_two (by omega), ← Nat.pow_succ]
    exact hk (i + 1) hik (by omega)
  · obtain rfl : i = O := by have c : (O : Int) ≤ (i : Int) := c; omega
    exact h

def OpenErr (x y z a1 : Int) (bs : List Nat) (xs : List Pg) (n : Nat) (pw : Nat → List Nat) (nh : Nat) (err : Int) : Prop :=
  (¬ isConf x y z ∧ err = 1) ∨ ∃ b0 lim O : Nat, Conf b0 lim O ∧ x = b0 ∧ y = lim ∧ z = O ∧
    ((∃ R : Nat, a1 = R ∧ OpenForm lim O R bs xs n pw nh) ∧ err = 0 ∨ (∀ R : Nat, a1 = R → ¬ OpenForm lim O R bs xs n pw nh) ∧ err = 7)

theorem regionErr_ct {x y z a1 : Int} {q2 q3 q4 q5 : Sl} {bs : List Nat} {xs : List Pg} {n nh : Nat} {pq : Nat → Sl} {pw : Nat → List Nat} {f : Nat → Nat} {K : Tup [sP, sI] → World → Prop} {KP : List PanicEntry → World → Prop}
    (hx : 0 ≤ x) (hx2 : x < 18446744073709551616) (hbl : bs.length ≤ 1099511627776) (hb : ∀ b ∈ bs, b < 256) (hxs : xs.length ≤ 100000) (hn : n ≤ 100000) (hpw : ∀ k, k < n → ∀ v ∈ pw k, v < 2 ^ 64) (hwd : ∀ x ∈ xs, Pg.words x) (hnh : nh ≤ 100) (hf : ∀ i, i < nh → f i < 18446744073709551616)
    (h : ∀ (p : Option Addr) (err : Int), OpenErr x y z a1 bs xs n pw nh err → ent e r (K (p, err, ())))
    (k2 : Take l (arr 5 s8 q2 (bs.map fun y : Nat => (y : Int))) r1 := by with_reducible first | assumption | ((repeat (first | exact .here | apply Take.there)); done)) (k3 : Take r1 (arr 57 sPg q3 xs) r2 := by with_reducible first | assumption | ((repeat (first | exact .here | apply Take.there)); done)) (k4 : Take r2 (arr 59 sS q4 (tab n pq)) r3 := by with_reducible first | assumption | ((repeat (first | exact .here | apply Take.there)); done))
    (k4w : Take r3 (each n fun k => arr 22 sU (pq k) ((pw k).map fun w : Nat => (w : Int))) r4 := by with_reducible first | assumption | ((repeat (first | exact .here | apply Take.there)); done)) (k5 : Take r4 (arr 22 sU q5 (tab nh fun i => (f i : Int))) r := by with_reducible first | assumption | ((repeat (first | exact .here | apply Take.there)); done)) :
    ent e l ((wpM PR).call 29 [.agg #[vU x, vI y, vI z], vI a1, .slice q2.base q2.len q2.cap, .slice q3.base q3.len q3.cap, .slice q4.base q4.len q4.cap, .slice q5.base q5.len q5.cap] [sP, sI] K KP) := by
  refine regionOpen_ct hx hx2 hbl hb hxs hn hpw hwd hnh hf (fun hno => h _ _ (.inl ⟨hno, rfl⟩)) (fun b0 lim O hc a1 a2 a3 hno => h _ _ (.inr ⟨b0, lim, O, hc, a1, a2, a3, .inr ⟨hno, rfl⟩⟩))
    (fun b0 lim O R hc a1 a2 a3 a4 hf p s m b σ _ _ _ _ _ => ent_sub (by repeat (first | exact Sub.refl | refine Sub.cons (by with_reducible first | assumption | ((repeat (first | exact .here | apply Take.there)); done)) ?_ | refine Sub.drop ?_)) (h _ _ (.inr ⟨b0, lim, O, hc, a1, a2, a3, .inl ⟨⟨R, a4, hf⟩, rfl⟩⟩))) k2 k3 k4 k4w k5

theorem words_elem : Elem PR 58 59 sS ⟨none, 0, 0⟩ 24 := .of (by kernel_rfl) (by kernel_rfl)

theorem rep_map {A B : Type} {f : A → B} {n : Nat} {a : A} : (List.replicate n a).map f = List.replicate n (f a) := List.map_replicate

theorem rep_tab {A : Type} {n : Nat} {a : A} : List.replicate n a = tab n fun _ => a := by
  apply List.ext_getElem?
  intro i
  by_cases hi : i < n
  · rw [tab_get hi, List.getElem?_replicate, if_pos hi]
  · rw [List.getElem?_eq_none (by rw [List.length_replicate]; omega), List.getElem?_eq_none (by rw [tab_len]; omega)]

theorem opens_ct {x y z a b1 p1 w1 h1 : Int} {ret : Value → World → Prop} {pan : List PanicEntry → World → Prop} (hx : 0 ≤ x) (hx2 : x < 18446744073709551616)
    (h : ∀ w, Below W.heap.size W w → ret (.bool true) w) :
    ent (still W) [was W] (funcF (wpM PR) PR Go.Proofs.Try.f5 [.agg #[vU x, vI y, vI z], vI a, vI b1, vI p1, vI w1, vI h1] ret pan) := by
  rw [nf5_eq]
  refine ent_new fun x1 => ?_
  refine awake_ct ?_
  refine ent_not (fun c => Bool.noConfusion (show true = false from c)) (fun _ => ?_)
  -- pages
  refine ent_joinP (A := Nat × Sl) (fun t x => x = (⟨t.2.base, t.2.len, t.2.cap⟩, (t.1 : Int), ()) ∧ t.1 ≤ 2000) (fun t => [arr 57 sPg t.2 (List.replicate t.1 pg2), blk x1 24 [vU x, vI y, vI z], was W]) (fun t x3 hx3 => ?_) (fun k59 h59 => ?_)
  rotate_left
  · refine ent_sub (l' := [arr 57 sPg ⟨none, 0, 0⟩ [], blk x1 24 [vU x, vI y, vI z], was W]) (Sub.arr_nil .refl) ?_
    refine ent_loop (S := Nat × Sl) (fun t => (⟨t.2.base, t.2.len, t.2.cap⟩, (t.1 : Int), ())) (fun t => [arr 57 sPg t.2 (List.replicate t.1 pg2), blk x1 24 [vU x, vI y, vI z], was W]) (fun t => t.1 ≤ 2000) (fun t => 2000 - t.1) (0, ⟨none, 0, 0⟩) rfl (Nat.zero_le _) (fun _ y => y) ?_
    rintro kk ⟨i, q⟩ hi hk
    simp only at hi hk ⊢
    refine ent_joinP (A := Unit) (fun _ _ => i < 2000) (fun _ => [arr 57 sPg q (List.replicate i pg2), blk x1 24 [vU x, vI y, vI z], was W]) (fun _ x62 hi2 => ?_) (fun k67 h67 => ?_)
    rotate_left
    · refine ent_lt (fun c => ?_) (fun c => h59 (i, q) _ ⟨rfl, hi⟩)
      refine ent_lt (fun c2 => ?_) (fun c2 => h59 (i, q) _ ⟨rfl, hi⟩)
      exact h67 () _ (by have c2 : (i : Int) < 2000 := c2; omega)
    refine ent_new fun x63 => ?_
    refine ent_st ?_
    refine ent_st ?_
    refine ent_st ?_
    refine ent_st ?_
    refine ent_ldA (ks := kPg) pg2 ?_
    refine ent_new fun x65 => ?_
    refine ent_append1 (xs := List.replicate i pg2) pg_elem rfl (by decide) pg2 (.there (.there .here)) .here rfl (by rw [List.length_replicate]; omega) (by rw [List.length_replicate]; omega) fun x66 _ => ?_
    show ent _ _ (kk (⟨x66.base, x66.len, x66.cap⟩, wI ((i : Int) + 1), ()))
    rw [wI_succ (by omega)]
    refine ent_sub ?_ (hk (i + 1, x66) (by simp only; omega) (by simp only; omega))
    rw [← List.replicate_succ']
    exact (by repeat (first | exact Sub.refl | refine Sub.cons (by with_reducible first | assumption | ((repeat (first | exact .here | apply Take.there)); done)) ?_ | refine Sub.drop ?_))
  obtain ⟨N, q3⟩ := t
  obtain ⟨rfl, hN⟩ := hx3
  simp only at hN ⊢
  refine ent_len (sh := sPg) (xs := List.replicate N pg2) .here fun hq3 => ?_
  rw [List.length_replicate] at hq3
  have hdiv : ∀ k, N / 2 ^ (k + 1) ≤ 1000 := fun k => by
    have h2 : 2 ≤ 2 ^ (k + 1) := Nat.le_trans (Nat.le_of_eq rfl) (Nat.pow_le_pow_right (n := 2) (by omega) (show 1 ≤ k + 1 by omega))
    have := Nat.div_le_div_left (a := N) h2 (by omega)
    omega
  -- pairs
  refine ent_joinP (A := Nat × Sl × (Nat → Sl)) (fun t x => x = (⟨t.2.1.base, t.2.1.len, t.2.1.cap⟩, (t.1 : Int), ()) ∧ t.1 ≤ 9 ∧ ((t.1 : Int) ≤ z ∨ t.1 = 0) ∧ (z ≤ (t.1 : Int) ∨ 9 ≤ t.1))
    (fun t => [arr 59 sS t.2.1 (tab t.1 t.2.2), each t.1 fun k => arr 22 sU (t.2.2 k) (List.replicate ((N / 2 ^ (k + 1) + 63) / 64) 0), arr 57 sPg q3 (List.replicate N pg2), blk x1 24 [vU x, vI y, vI z], was W]) (fun t x4 hx4 => ?_) (fun k50 h50 => ?_)
  rotate_left
  · refine ent_sub (l' := [arr 59 sS ⟨none, 0, 0⟩ (tab 0 fun _ => ⟨none, 0, 0⟩), each 0 fun k => arr 22 sU ⟨none, 0, 0⟩ (List.replicate ((N / 2 ^ (k + 1) + 63) / 64) 0), arr 57 sPg q3 (List.replicate N pg2), blk x1 24 [vU x, vI y, vI z], was W]) (Sub.arr_nil (Sub.each_nil .refl)) ?_
    refine ent_loop (S := Nat × Sl × (Nat → Sl)) (fun t => (⟨t.2.1.base, t.2.1.len, t.2.1.cap⟩, (t.1 : Int), ())) (fun t => [arr 59 sS t.2.1 (tab t.1 t.2.2), each t.1 fun k => arr 22 sU (t.2.2 k) (List.replicate ((N / 2 ^ (k + 1) + 63) / 64) 0), arr 57 sPg q3 (List.replicate N pg2), blk x1 24 [vU x, vI y, vI z], was W])
      (fun t => t.1 ≤ 9 ∧ ((t.1 : Int) ≤ z ∨ t.1 = 0)) (fun t => 9 - t.1) (0, ⟨none, 0, 0⟩, fun _ => ⟨none, 0, 0⟩) rfl ⟨Nat.zero_le _, .inr rfl⟩ (fun _ y => y) ?_
    rintro kk ⟨i, q, pq⟩ ⟨hi, hiz⟩ hk
    simp only at hi hiz hk ⊢
    refine ent_joinP (A := Unit) (fun _ _ => i < 9 ∧ (i : Int) < z) (fun _ => [arr 59 sS q (tab i pq), each i fun k => arr 22 sU (pq k) (List.replicate ((N / 2 ^ (k + 1) + 63) / 64) 0), arr 57 sPg q3 (List.replicate N pg2), blk x1 24 [vU x, vI y, vI z], was W]) (fun _ x62 hi2 => ?_) (fun k67 h67 => ?_)
    rotate_left
    · refine ent_ld z ?_
      refine ent_lt (fun c => ?_) (fun c => h50 (i, q, pq) _ ⟨rfl, hi, hiz, .inl c⟩)
      refine ent_lt (fun c2 => ?_) (fun c2 => h50 (i, q, pq) _ ⟨rfl, hi, hiz, .inr (by have c2 : (9 : Int) ≤ (i : Int) := c2; omega)⟩)
      exact h67 () _ ⟨by have c2 : (i : Int) < 9 := c2; omega, c⟩
    obtain ⟨hi9, hiz2⟩ := hi2
    have hd := hdiv i
    have e1 : wI ((wI (((q3.len : Nat) : Int).fdiv (2 ^ min (wI ((i : Int) + 1)).toNat 64) + 63)).tdiv 64) = (((N / 2 ^ (i + 1) + 63) / 64 : Nat) : Int) := by
      rw [wI_succ (by omega), hq3, shr_nat (by omega), words_len (by omega)]
    refine ent_g0 (by rw [wI_succ (by omega)]; omega) ?_
    refine ent_make' u64_elem ((N / 2 ^ (i + 1) + 63) / 64) ((N / 2 ^ (i + 1) + 63) / 64) e1 e1 (Nat.le_refl _) (by omega) (by omega) fun x54 _ _ => ?_
    refine ent_new fun x55 => ?_
    refine ent_append1 (xs := tab i pq) words_elem rfl (by decide) x54 (.there (.there .here)) .here rfl (by rw [tab_len]; omega) (by rw [tab_len]; omega) fun x56 _ => ?_
    show ent _ _ (kk (⟨x56.base, x56.len, x56.cap⟩, wI ((i : Int) + 1), ()))
    rw [wI_succ (by omega)]
    refine ent_sub ?_ (hk (i + 1, x56, set1 pq i x54) ⟨by simp only; omega, .inl (by simp only; omega)⟩ (by simp only; omega))
    simp only
    rw [← tab_snoc]
    refine Sub.cons (by with_reducible first | assumption | ((repeat (first | exact .here | apply Take.there)); done)) (Sub.each_snoc ?_)
    rw [set1_same]
    exact Sub.cons (by with_reducible first | assumption | ((repeat (first | exact .here | apply Take.there)); done)) (Sub.each_congr (f := fun k => arr 22 sU (pq k) (List.replicate ((N / 2 ^ (k + 1) + 63) / 64) 0)) (fun k hk => by rw [set1_other (by omega)]) (by repeat (first | exact Sub.refl | refine Sub.cons (by with_reducible first | assumption | ((repeat (first | exact .here | apply Take.there)); done)) ?_ | refine Sub.drop ?_)))
  obtain ⟨n0, q4, pq⟩ := t
  obtain ⟨rfl, hn9, hnz, hnz2⟩ := hx4
  simp only at hn9 hnz hnz2 ⊢
  -- more of them
  refine ent_joinP (A := Nat × Sl) (fun t x => x = (⟨t.2.base, t.2.len, t.2.cap⟩, (t.1 : Int), ()) ∧ t.1 ≤ 5)
    (fun t => [arr 59 sS t.2 (tab (n0 + t.1) fun k => if k < n0 then pq k else ⟨none, 0, 0⟩), each (n0 + t.1) fun k => arr 22 sU (if k < n0 then pq k else ⟨none, 0, 0⟩) ((if k < n0 then List.replicate ((N / 2 ^ (k + 1) + 63) / 64) 0 else []).map fun w : Nat => (w : Int)), arr 57 sPg q3 (List.replicate N pg2), blk x1 24 [vU x, vI y, vI z], was W]) (fun t x5 hx5 => ?_) (fun k43 h43 => ?_)
  rotate_left
  · refine ent_sub (l' := [arr 59 sS q4 (tab (n0 + 0) fun k => if k < n0 then pq k else ⟨none, 0, 0⟩), each (n0 + 0) fun k => arr 22 sU (if k < n0 then pq k else ⟨none, 0, 0⟩) ((if k < n0 then List.replicate ((N / 2 ^ (k + 1) + 63) / 64) 0 else []).map fun w : Nat => (w : Int)), arr 57 sPg q3 (List.replicate N pg2), blk x1 24 [vU x, vI y, vI z], was W]) ?_ ?_
    · rw [Nat.add_zero, tab_congr (g := pq) fun k hk => if_pos hk]
      exact Sub.cons (by with_reducible first | assumption | ((repeat (first | exact .here | apply Take.there)); done)) (Sub.each_congr (f := fun k => arr 22 sU (pq k) (List.replicate ((N / 2 ^ (k + 1) + 63) / 64) 0)) (fun k hk => by rw [if_pos hk, if_pos hk, rep_map]; rfl) (by repeat (first | exact Sub.refl | refine Sub.cons (by with_reducible first | assumption | ((repeat (first | exact .here | apply Take.there)); done)) ?_ | refine Sub.drop ?_)))
    refine ent_loop (S := Nat × Sl) (fun t => (⟨t.2.base, t.2.len, t.2.cap⟩, (t.1 : Int), ())) (fun t => [arr 59 sS t.2 (tab (n0 + t.1) fun k => if k < n0 then pq k else ⟨none, 0, 0⟩), each (n0 + t.1) fun k => arr 22 sU (if k < n0 then pq k else ⟨none, 0, 0⟩) ((if k < n0 then List.replicate ((N / 2 ^ (k + 1) + 63) / 64) 0 else []).map fun w : Nat => (w : Int)), arr 57 sPg q3 (List.replicate N pg2), blk x1 24 [vU x, vI y, vI z], was W])
      (fun t => t.1 ≤ 5) (fun t => 5 - t.1) (0, q4) rfl (Nat.zero_le _) (fun _ y => y) ?_
    rintro kk ⟨i, q⟩ hi hk
    simp only at hi hk ⊢
    refine ent_joinP (A := Unit) (fun _ _ => i < 5) (fun _ => [arr 59 sS q (tab (n0 + i) fun k => if k < n0 then pq k else ⟨none, 0, 0⟩), each (n0 + i) fun k => arr 22 sU (if k < n0 then pq k else ⟨none, 0, 0⟩) ((if k < n0 then List.replicate ((N / 2 ^ (k + 1) + 63) / 64) 0 else []).map fun w : Nat => (w : Int)), arr 57 sPg q3 (List.replicate N pg2), blk x1 24 [vU x, vI y, vI z], was W]) (fun _ x62 hi2 => ?_) (fun k67 h67 => ?_)
    rotate_left
    · refine ent_lt (fun c => ?_) (fun c => h43 (i, q) _ ⟨rfl, hi⟩)
      refine ent_lt (fun c2 => ?_) (fun c2 => h43 (i, q) _ ⟨rfl, hi⟩)
      exact h67 () _ (by have c2 : (i : Int) < 5 := c2; omega)
    refine ent_new fun x47 => ?_
    refine ent_append1 (xs := tab (n0 + i) fun k => if k < n0 then pq k else ⟨none, 0, 0⟩) words_elem rfl (by decide) ⟨none, 0, 0⟩ (.there .here) .here rfl (by rw [tab_len]; omega) (by rw [tab_len]; omega) fun x48 _ => ?_
    show ent _ _ (kk (⟨x48.base, x48.len, x48.cap⟩, wI ((i : Int) + 1), ()))
    rw [wI_succ (by omega)]
    refine ent_sub ?_ (hk (i + 1, x48) (by simp only; omega) (by simp only; omega))
    simp only
    rw [← Nat.add_assoc, tab_succ, if_neg (show ¬ n0 + i < n0 by omega)]
    refine Sub.cons (by with_reducible first | assumption | ((repeat (first | exact .here | apply Take.there)); done)) (Sub.each_snoc ?_)
    rw [if_neg (show ¬ n0 + i < n0 by omega), if_neg (show ¬ n0 + i < n0 by omega)]
    exact Sub.arr_nil (by repeat (first | exact Sub.refl | refine Sub.cons (by with_reducible first | assumption | ((repeat (first | exact .here | apply Take.there)); done)) ?_ | refine Sub.drop ?_))
  obtain ⟨w, q5⟩ := t
  obtain ⟨rfl, hw5⟩ := hx5
  simp only at hw5 ⊢
  obtain ⟨n, hn⟩ : ∃ n, n = n0 + w := ⟨_, rfl⟩
  rw [← hn]
  obtain ⟨pq', hpq'⟩ : ∃ pq' : Nat → Sl, pq' = fun k => if k < n0 then pq k else ⟨none, 0, 0⟩ := ⟨_, rfl⟩
  obtain ⟨pw, hpw'⟩ : ∃ pw : Nat → List Nat, pw = fun k => if k < n0 then List.replicate ((N / 2 ^ (k + 1) + 63) / 64) 0 else [] := ⟨_, rfl⟩
  refine ent_sub (l' := [arr 59 sS q5 (tab n pq'), each n fun k => arr 22 sU (pq' k) ((pw k).map fun w : Nat => (w : Int)), arr 57 sPg q3 (List.replicate N pg2), blk x1 24 [vU x, vI y, vI z], was W]) (by rw [hpq', hpw']; exact .refl) ?_
  have hw : ∀ O : Nat, z = O → O ≤ 8 → n = O → ∀ k, k < n → (pw k).length = (N / 2 ^ (k + 1) + 63) / 64 := by
    intro O hz hO8 hO k hk
    rw [hpw']
    show (if k < n0 then _ else _ : List Nat).length = _
    rw [if_pos (by omega), List.length_replicate]
  have hpw64 : ∀ k, k < n → ∀ v ∈ pw k, v < 2 ^ 64 := by
    intro k _ v hv
    rw [hpw'] at hv
    have hv : v ∈ (if k < n0 then List.replicate ((N / 2 ^ (k + 1) + 63) / 64) 0 else []) := hv
    split at hv
    · rw [(List.mem_replicate.1 hv).2]; decide
    · simp at hv
  have hwd : ∀ x ∈ List.replicate N pg2, Pg.words x := fun x hx => by
    rw [(List.mem_replicate.1 hx).2]
    exact ⟨⟨by decide, by decide⟩, ⟨by decide, by decide⟩, ⟨by decide, by decide⟩, ⟨by decide, by decide⟩⟩
  refine ent_len (sh := sS) (xs := tab n pq') .here fun hq5 => ?_
  rw [tab_len] at hq5
  -- heads, bytes
  refine ent_joinP (A := Nat) (fun h0 x => x = ((h0 : Int), ()) ∧ h0 ≤ 100) (fun _ => [arr 59 sS q5 (tab n pq'), each n fun k => arr 22 sU (pq' k) ((pw k).map fun w : Nat => (w : Int)), arr 57 sPg q3 (List.replicate N pg2), blk x1 24 [vU x, vI y, vI z], was W]) (fun h0 x6 hx6 => ?_) (fun k42 h42 => ?_)
  rotate_left
  · refine ent_lt (fun _ => h42 0 _ ⟨rfl, Nat.zero_le _⟩) (fun c => ?_)
    refine ent_gt (fun _ => h42 0 _ ⟨rfl, Nat.zero_le _⟩) (fun c2 => ?_)
    obtain ⟨t, rfl⟩ : ∃ t : Nat, h1 = t := ⟨h1.toNat, by have c : (0 : Int) ≤ h1 := c; omega⟩
    exact h42 t _ ⟨rfl, by have c2 : (t : Int) ≤ 100 := c2; omega⟩
  obtain ⟨rfl, hh0⟩ := hx6
  refine ent_joinP (A := Nat) (fun b x => x = ((b : Int), ()) ∧ b ≤ 4194304) (fun _ => [arr 59 sS q5 (tab n pq'), each n fun k => arr 22 sU (pq' k) ((pw k).map fun w : Nat => (w : Int)), arr 57 sPg q3 (List.replicate N pg2), blk x1 24 [vU x, vI y, vI z], was W]) (fun b x7 hx7 => ?_) (fun k41 h41 => ?_)
  rotate_left
  · refine ent_lt (fun _ => h41 0 _ ⟨rfl, Nat.zero_le _⟩) (fun c => ?_)
    refine ent_gt (fun _ => h41 0 _ ⟨rfl, Nat.zero_le _⟩) (fun c2 => ?_)
    obtain ⟨t, rfl⟩ : ∃ t : Nat, b1 = t := ⟨b1.toNat, by have c : (0 : Int) ≤ b1 := c; omega⟩
    exact h41 t _ ⟨rfl, by have c2 : (t : Int) ≤ 4194304 := c2; omega⟩
  obtain ⟨rfl, hb⟩ := hx7
  refine ent_draw ?_
  refine ent_ldA (x, y, z, ()) ?_
  refine ent_both ?_ ?_
  · refine ent_make' bytes_elem b b rfl rfl (Nat.le_refl _) (by omega) (by omega) fun x9 _ _ => ?_
    refine ent_keepA (ent_keep0 ?_)
    refine ent_make' u64_elem h0 h0 rfl rfl (Nat.le_refl _) (by omega) (by omega) fun x10 _ _ => ?_
    refine ent_keepA (ent_keep0 ?_)
    refine ent_sub (l' := [arr 5 s8 x9 ((List.replicate b 0).map fun y : Nat => (y : Int)), arr 57 sPg q3 (List.replicate N pg2), arr 59 sS q5 (tab n pq'), each n fun k => arr 22 sU (pq' k) ((pw k).map fun w : Nat => (w : Int)), arr 22 sU x10 (tab h0 fun _ => ((0 : Nat) : Int)), blk x1 24 [vU x, vI y, vI z], was W]) (by
      rw [rep_map, ← rep_tab]
      show Sub _ [arr 5 s8 x9 (List.replicate b (0 : Int)), arr 57 sPg q3 (List.replicate N pg2), arr 59 sS q5 (tab n pq'), each n fun k => arr 22 sU (pq' k) ((pw k).map fun w : Nat => (w : Int)), arr 22 sU x10 (List.replicate h0 (0 : Int)), blk x1 24 [vU x, vI y, vI z], was W]
      exact (by repeat (first | exact Sub.refl | refine Sub.cons (by with_reducible first | assumption | ((repeat (first | exact .here | apply Take.there)); done)) ?_ | refine Sub.drop ?_))) ?_
    refine regionErr_ct hx hx2 (q2 := x9) (q3 := q3) (q4 := q5) (q5 := x10) (bs := List.replicate b 0) (xs := List.replicate N pg2) (n := n) (nh := h0) (pq := pq') (pw := pw) (f := fun _ => 0) (by rw [List.length_replicate]; omega) (fun v hv => by rw [(List.mem_replicate.1 hv).2]; decide) (by rw [List.length_replicate]; omega) (by omega) hpw64 hwd hh0 (fun _ _ => by decide) fun ptr err hg => ?_
    refine ent_ldA (x, y, z, ()) ?_
    refine mayRef_ct hx hx2 (fun b0 lim O a1' a2' a3' hc => ?_) (fun hno => ?_)
    rotate_left
    · refine ent_not (fun _ => ?_) (fun c => Bool.noConfusion (show false = true from c))
      rcases hg with ⟨_, h1⟩ | ⟨b0, lim, O, hc, h1, h2, h3, _⟩
      · subst h1; exact ent_done h
      · exact absurd ⟨b0, lim, O, h1, h2, h3, hc⟩ hno
    rcases hg with ⟨hno, _⟩ | ⟨b0', lim', O', _, h1, h2, h3, hg⟩
    · exact absurd ⟨b0, lim, O, a1', a2', a3', hc⟩ hno
    obtain rfl : lim = lim' := by omega
    obtain rfl : O = O' := by omega
    subst a1' a2' a3'
    refine ent_not (fun c => Bool.noConfusion (show true = false from c)) (fun _ => ?_)
    have hO := hc.order
    have hlim := hc.limit
    have hp8 := pow_le8 hO
    have hp0 : 0 < 2 ^ O := Nat.pow_pos (by omega)
    have bad : ∀ {l' : List HP}, Sub l' [was W] → (∀ R : Nat, a = R → ¬ OpenForm lim O R (List.replicate b 0) (List.replicate N pg2) n pw h0) → ent (still W) l' (ret (vB (err == 7))) := fun hs hbad => by
      rcases hg with ⟨⟨R, hR, hf⟩, _⟩ | ⟨_, he⟩
      · exact absurd hf (hbad R hR)
      · subst he; exact ent_sub hs (ent_done h)
    refine ent_ge (fun c0 => ?_) (fun c0 => bad (by repeat (first | exact Sub.refl | refine Sub.cons (by with_reducible first | assumption | ((repeat (first | exact .here | apply Take.there)); done)) ?_ | refine Sub.drop ?_)) fun R hR _ => by omega)
    obtain ⟨R, rfl⟩ : ∃ R : Nat, a = R := ⟨a.toNat, by have c0 : (0 : Int) ≤ a := c0; omega⟩
    refine ent_ld (lim : Int) ?_
    refine ent_le (fun c1 => ?_) (fun c1 => bad (by repeat (first | exact Sub.refl | refine Sub.cons (by with_reducible first | assumption | ((repeat (first | exact .here | apply Take.there)); done)) ?_ | refine Sub.drop ?_)) fun R' hR f => by have c1 : (lim : Int) < (R : Int) := c1; have := f.regions; omega)
    have c1 : (R : Int) ≤ (lim : Int) := c1
    refine ent_ldA ((b0 : Int), (lim : Int), (O : Int), ()) ?_
    refine R_ct O (by omega) ?_
    have hRO : R * 2 ^ O ≤ 64 * 256 := Nat.mul_le_mul (by omega) hp8
    have hRB : R * 4096 * 2 ^ O ≤ 64 * 4096 * 256 := Nat.mul_le_mul (Nat.mul_le_mul (by omega) (Nat.le_refl _)) hp8
    have e1 : wU (wU (R : Int) * ((4096 * 2 ^ O : Nat) : Int)) = ((R * 4096 * 2 ^ O : Nat) : Int) := by
      rw [wU_nat (n := R) (by omega), ← Int.natCast_mul, ← Nat.mul_assoc, wU_nat (by omega)]
    try dsimp only
    rw [e1, wU_nat (n := b) (by omega)]
    refine ent_eq (fun c2 => ?_) (fun c2 => bad (by repeat (first | exact Sub.refl | refine Sub.cons (by with_reducible first | assumption | ((repeat (first | exact .here | apply Take.there)); done)) ?_ | refine Sub.drop ?_)) fun R' hR f => ?_)
    rotate_left
    · obtain rfl : R = R' := by omega
      have := f.bytes; rw [List.length_replicate] at this
      exact absurd (show ((b : Nat) : Int) = ((R * 4096 * 2 ^ O : Nat) : Int) by rw [this]) c2
    have c2 : ((b : Nat) : Int) = ((R * 4096 * 2 ^ O : Nat) : Int) := c2
    refine ent_ld (O : Int) ?_
    refine power_ct O (by omega) ?_
    try dsimp only
    rw [← Int.natCast_mul, wI_nat (by omega)]
    refine ent_eq (fun c3 => ?_) (fun c3 => bad (by repeat (first | exact Sub.refl | refine Sub.cons (by with_reducible first | assumption | ((repeat (first | exact .here | apply Take.there)); done)) ?_ | refine Sub.drop ?_)) fun R' hR f => ?_)
    rotate_left
    · obtain rfl : R = R' := by omega
      have := f.pages; rw [List.length_replicate] at this
      exact absurd (show ((q3.len : Nat) : Int) = ((R * 2 ^ O : Nat) : Int) by rw [hq3, this]) c3
    have c3 : ((q3.len : Nat) : Int) = ((R * 2 ^ O : Nat) : Int) := c3
    refine ent_ld (O : Int) ?_
    refine ent_eq (fun c4 => ?_) (fun c4 => bad (by repeat (first | exact Sub.refl | refine Sub.cons (by with_reducible first | assumption | ((repeat (first | exact .here | apply Take.there)); done)) ?_ | refine Sub.drop ?_)) fun R' hR f => ?_)
    rotate_left
    · have := f.map.pairs
      exact absurd (show ((q5.len : Nat) : Int) = (O : Int) by rw [hq5, this]) c4
    have c4 : ((q5.len : Nat) : Int) = (O : Int) := c4
    refine ent_ld (O : Int) ?_
    rw [wI_succ (by omega)]
    refine ent_eq (fun c5 => ?_) (fun c5 => bad (by repeat (first | exact Sub.refl | refine Sub.cons (by with_reducible first | assumption | ((repeat (first | exact .here | apply Take.there)); done)) ?_ | refine Sub.drop ?_)) fun R' hR f => ?_)
    rotate_left
    · have := f.heads
      exact absurd (show ((h0 : Nat) : Int) = ((O + 1 : Nat) : Int) by rw [this]) c5
    have c5 : ((h0 : Nat) : Int) = ((O + 1 : Nat) : Int) := c5
    have hN : N = R * 2 ^ O := by omega
    have hnO : n = O := by omega
    have hform : OpenForm lim O R (List.replicate b 0) (List.replicate N pg2) n pw h0 := by
      refine ⟨by omega, by rw [List.length_replicate]; omega, by rw [List.length_replicate]; omega, ⟨hO, ?_, ?_, hnO, ?_, ?_⟩, by omega⟩
      · rw [List.length_replicate, hN]
        exact Nat.le_trans (Nat.mul_le_mul_right _ (by omega)) hc.pages
      · rw [List.length_replicate, hN, Nat.mul_mod_left]
      · rw [List.length_replicate]; exact hw O rfl hO hnO
      · intro x hx
        rw [(List.mem_replicate.1 hx).2, List.length_replicate]
        exact fits2
    rcases hg with ⟨_, he⟩ | ⟨hbad, _⟩
    · subst he; exact ent_done h
    · exact absurd hform (hbad R rfl)
  · refine ent_make' u64_elem h0 h0 rfl rfl (Nat.le_refl _) (by omega) (by omega) fun x10 _ _ => ?_
    refine ent_keepA (ent_keep0 ?_)
    refine ent_make' bytes_elem b b rfl rfl (Nat.le_refl _) (by omega) (by omega) fun x9 _ _ => ?_
    refine ent_keepA (ent_keep0 ?_)
    refine ent_sub (l' := [arr 5 s8 x9 ((List.replicate b 0).map fun y : Nat => (y : Int)), arr 57 sPg q3 (List.replicate N pg2), arr 59 sS q5 (tab n pq'), each n fun k => arr 22 sU (pq' k) ((pw k).map fun w : Nat => (w : Int)), arr 22 sU x10 (tab h0 fun _ => ((0 : Nat) : Int)), blk x1 24 [vU x, vI y, vI z], was W]) (by
      rw [rep_map, ← rep_tab]
      show Sub _ [arr 5 s8 x9 (List.replicate b (0 : Int)), arr 57 sPg q3 (List.replicate N pg2), arr 59 sS q5 (tab n pq'), each n fun k => arr 22 sU (pq' k) ((pw k).map fun w : Nat => (w : Int)), arr 22 sU x10 (List.replicate h0 (0 : Int)), blk x1 24 [vU x, vI y, vI z], was W]
      exact (by repeat (first | exact Sub.refl | refine Sub.cons (by with_reducible first | assumption | ((repeat (first | exact .here | apply Take.there)); done)) ?_ | refine Sub.drop ?_))) ?_
    refine regionErr_ct hx hx2 (q2 := x9) (q3 := q3) (q4 := q5) (q5 := x10) (bs := List.replicate b 0) (xs := List.replicate N pg2) (n := n) (nh := h0) (pq := pq') (pw := pw) (f := fun _ => 0) (by rw [List.length_replicate]; omega) (fun v hv => by rw [(List.mem_replicate.1 hv).2]; decide) (by rw [List.length_replicate]; omega) (by omega) hpw64 hwd hh0 (fun _ _ => by decide) fun ptr err hg => ?_
    refine ent_ldA (x, y, z, ()) ?_
    refine mayRef_ct hx hx2 (fun b0 lim O a1' a2' a3' hc => ?_) (fun hno => ?_)
    rotate_left
    · refine ent_not (fun _ => ?_) (fun c => Bool.noConfusion (show false = true from c))
      rcases hg with ⟨_, h1⟩ | ⟨b0, lim, O, hc, h1, h2, h3, _⟩
      · subst h1; exact ent_done h
      · exact absurd ⟨b0, lim, O, h1, h2, h3, hc⟩ hno
    rcases hg with ⟨hno, _⟩ | ⟨b0', lim', O', _, h1, h2, h3, hg⟩
    · exact absurd ⟨b0, lim, O, a1', a2', a3', hc⟩ hno
    obtain rfl : lim = lim' := by omega
    obtain rfl : O = O' := by omega
    subst a1' a2' a3'
    refine ent_not (fun c => Bool.noConfusion (show true = false from c)) (fun _ => ?_)
    have hO := hc.order
    have hlim := hc.limit
    have hp8 := pow_le8 hO
    have hp0 : 0 < 2 ^ O := Nat.pow_pos (by omega)
    have bad : ∀ {l' : List HP}, Sub l' [was W] → (∀ R : Nat, a = R → ¬ OpenForm lim O R (List.replicate b 0) (List.replicate N pg2) n pw h0) → ent (still W) l' (ret (vB (err == 7))) := fun hs hbad => by
      rcases hg with ⟨⟨R, hR, hf⟩, _⟩ | ⟨_, he⟩
      · exact absurd hf (hbad R hR)
      · subst he; exact ent_sub hs (ent_done h)
    refine ent_ge (fun c0 => ?_) (fun c0 => bad (by repeat (first | exact Sub.refl | refine Sub.cons (by with_reducible first | assumption | ((repeat (first | exact .here | apply Take.there)); done)) ?_ | refine Sub.drop ?_)) fun R hR _ => by omega)
    obtain ⟨R, rfl⟩ : ∃ R : Nat, a = R := ⟨a.toNat, by have c0 : (0 : Int) ≤ a := c0; omega⟩
    refine ent_ld (lim : Int) ?_
    refine ent_le (fun c1 => ?_) (fun c1 => bad (by repeat (first | exact Sub.refl | refine Sub.cons (by with_reducible first | assumption | ((repeat (first | exact .here | apply Take.there)); done)) ?_ | refine Sub.drop ?_)) fun R' hR f => by have c1 : (lim : Int) < (R : Int) := c1; have := f.regions; omega)
    have c1 : (R : Int) ≤ (lim : Int) := c1
    refine ent_ldA ((b0 : Int), (lim : Int), (O : Int), ()) ?_
    refine R_ct O (by omega) ?_
    have hRO : R * 2 ^ O ≤ 64 * 256 := Nat.mul_le_mul (by omega) hp8
    have hRB : R * 4096 * 2 ^ O ≤ 64 * 4096 * 256 := Nat.mul_le_mul (Nat.mul_le_mul (by omega) (Nat.le_refl _)) hp8
    have e1 : wU (wU (R : Int) * ((4096 * 2 ^ O : Nat) : Int)) = ((R * 4096 * 2 ^ O : Nat) : Int) := by
      rw [wU_nat (n := R) (by omega), ← Int.natCast_mul, ← Nat.mul_assoc, wU_nat (by omega)]
    try dsimp only
    rw [e1, wU_nat (n := b) (by omega)]
    refine ent_eq (fun c2 => ?_) (fun c2 => bad (by repeat (first | exact Sub.refl | refine Sub.cons (by with_reducible first | assumption | ((repeat (first | exact .here | apply Take.there)); done)) ?_ | refine Sub.drop ?_)) fun R' hR f => ?_)
    rotate_left
    · obtain rfl : R = R' := by omega
      have := f.bytes; rw [List.length_replicate] at this
      exact absurd (show ((b : Nat) : Int) = ((R * 4096 * 2 ^ O : Nat) : Int) by rw [this]) c2
    have c2 : ((b : Nat) : Int) = ((R * 4096 * 2 ^ O : Nat) : Int) := c2
    refine ent_ld (O : Int) ?_
    refine power_ct O (by omega) ?_
    try dsimp only
    rw [← Int.natCast_mul, wI_nat (by omega)]
    refine ent_eq (fun c3 => ?_) (fun c3 => bad (by repeat (first | exact Sub.refl | refine Sub.cons (by with_reducible first | assumption | ((repeat (first | exact .here | apply Take.there)); done)) ?_ | refine Sub.drop ?_)) fun R' hR f => ?_)
    rotate_left
    · obtain rfl : R = R' := by omega
      have := f.pages; rw [List.length_replicate] at this
      exact absurd (show ((q3.len : Nat) : Int) = ((R * 2 ^ O : Nat) : Int) by rw [hq3, this]) c3
    have c3 : ((q3.len : Nat) : Int) = ((R * 2 ^ O : Nat) : Int) := c3
    refine ent_ld (O : Int) ?_
    refine ent_eq (fun c4 => ?_) (fun c4 => bad (by repeat (first | exact Sub.refl | refine Sub.cons (by with_reducible first | assumption | ((repeat (first | exact .here | apply Take.there)); done)) ?_ | refine Sub.drop ?_)) fun R' hR f => ?_)
    rotate_left
    · have := f.map.pairs
      exact absurd (show ((q5.len : Nat) : Int) = (O : Int) by rw [hq5, this]) c4
    have c4 : ((q5.len : Nat) : Int) = (O : Int) := c4
    refine ent_ld (O : Int) ?_
    rw [wI_succ (by omega)]
    refine ent_eq (fun c5 => ?_) (fun c5 => bad (by repeat (first | exact Sub.refl | refine Sub.cons (by with_reducible first | assumption | ((repeat (first | exact .here | apply Take.there)); done)) ?_ | refine Sub.drop ?_)) fun R' hR f => ?_)
    rotate_left
    · have := f.heads
      exact absurd (show ((h0 : Nat) : Int) = ((O + 1 : Nat) : Int) by rw [this]) c5
    have c5 : ((h0 : Nat) : Int) = ((O + 1 : Nat) : Int) := c5
    have hN : N = R * 2 ^ O := by omega
    have hnO : n = O := by omega
    have hform : OpenForm lim O R (List.replicate b 0) (List.replicate N pg2) n pw h0 := by
      refine ⟨by omega, by rw [List.length_replicate]; omega, by rw [List.length_replicate]; omega, ⟨hO, ?_, ?_, hnO, ?_, ?_⟩, by omega⟩
      · rw [List.length_replicate, hN]
        exact Nat.le_trans (Nat.mul_le_mul_right _ (by omega)) hc.pages
      · rw [List.length_replicate, hN, Nat.mul_mod_left]
      · rw [List.length_replicate]; exact hw O rfl hO hnO
      · intro x hx
        rw [(List.mem_replicate.1 hx).2, List.length_replicate]
        exact fits2
    rcases hg with ⟨_, he⟩ | ⟨hbad, _⟩
    · subst he; exact ent_done h
    · exact absurd hform (hbad R rfl)

end Go.Proofs.Ytdmfnlcbfmahhaa
