/- A deed of the statements. -/
import Derived.Test.YtdmfnlcbfmahhaaBookD
namespace Go.Proofs.Ytdmfnlcbfmahhaa
open Go Hl Bd
set_option maxRecDepth 100000

variable {e : Still} {l l1 r : List HP} {X : World → Prop} {w b s m : Nat} {σ : Sp} {d d0 : D}

abbrev doC (w b s m x1 x2 x3 : Nat) (σ : Sp) (d d0 : D) (fs ls q : Sl) (L : List Bl) (x y z : Int) (r : List HP) : List HP :=
  isG noS b s m σ d :: wBlk w b s m σ d0 fs ls :: isFree d0.O fs d0.free :: isLiveL ls d0.live :: isBook q L ::
  blk x1 42 [.slice q.base q.len q.cap] :: blk x2 46 [vI x, vI y, vI z] :: blk x3 42 [.slice none 0 0] :: r

theorem mark_eq (x : Int) : ∃ mk : Nat, mk < 256 ∧ IntKind.u8.wrap x = (mk : Int) := by
  have h : IntKind.u8.wrap x = x % 256 := by
    simp [IntKind.wrap, show IntKind.u8.signed = false from rfl, show IntKind.u8.bits = 8 from rfl]
  exact ⟨(IntKind.u8.wrap x).toNat, by rw [h]; omega, by rw [h]; omega⟩

theorem do_ct {q : Sl} {L : List Bl} {x y z : Int} {K : Tup [sBook, sB] → World → Prop} {KP : List PanicEntry → World → Prop} (B : Booked σ d L) (hlen : d0.live.length ≤ 99999) (hL : L.length ≤ 99999)
    (h : ∀ (q' : Sl) (L' : List Bl) (σ' : Sp) (d' d0' : D), Booked σ' d' L' → σ'.base = σ.base → σ'.limit = σ.limit → σ'.order = σ.order → d0'.live.length ≤ d0.live.length + 1 → L'.length ≤ L.length + 1 → Kept σ σ' L L' →
      ent e (isW w b s m σ' d' d0' :: isBook q' L' :: r) (K ((q', ()), true, ())))
    (kw : Take l (isW w b s m σ d d0) l1 := by with_reducible first | assumption | exact .here | exact .there .here | exact .there (.there .here) | exact .there (.there (.there .here)) | exact .there (.there (.there (.there .here))) | exact .there (.there (.there (.there (.there .here)))) | exact .there (.there (.there (.there (.there (.there .here))))) | exact .there (.there (.there (.there (.there (.there (.there .here)))))) | exact .there (.there (.there (.there (.there (.there (.there (.there .here))))))) | exact .there (.there (.there (.there (.there (.there (.there (.there (.there .here)))))))) | exact .there (.there (.there (.there (.there (.there (.there (.there (.there (.there .here))))))))) | exact .there (.there (.there (.there (.there (.there (.there (.there (.there (.there (.there .here)))))))))) | exact .there (.there (.there (.there (.there (.there (.there (.there (.there (.there (.there (.there .here))))))))))) | exact .there (.there (.there (.there (.there (.there (.there (.there (.there (.there (.there (.there (.there .here))))))))))))) (kb : Take l1 (isBook q L) r := by with_reducible first | assumption | exact .here | exact .there .here | exact .there (.there .here) | exact .there (.there (.there .here)) | exact .there (.there (.there (.there .here))) | exact .there (.there (.there (.there (.there .here)))) | exact .there (.there (.there (.there (.there (.there .here))))) | exact .there (.there (.there (.there (.there (.there (.there .here)))))) | exact .there (.there (.there (.there (.there (.there (.there (.there .here))))))) | exact .there (.there (.there (.there (.there (.there (.there (.there (.there .here)))))))) | exact .there (.there (.there (.there (.there (.there (.there (.there (.there (.there .here))))))))) | exact .there (.there (.there (.there (.there (.there (.there (.there (.there (.there (.there .here)))))))))) | exact .there (.there (.there (.there (.there (.there (.there (.there (.there (.there (.there (.there .here))))))))))) | exact .there (.there (.there (.there (.there (.there (.there (.there (.there (.there (.there (.there (.there .here))))))))))))) :
    ent e l ((wpM PR).call 24 [vP w, .agg #[.slice q.base q.len q.cap], .agg #[vI x, vI y, vI z]] [sBook, sB] K KP) := by
  refine ent_call (fn := Go.Proofs.Try.f24) (by kernel_rfl) ?_
  rw [nf24_eq]
  refine ent_new fun x1 => ?_
  refine ent_new fun x2 => ?_
  refine ent_new fun x3 => ?_
  refine ent_W (fun fs ls hO hP => ?_) (.there (.there (.there kw)))
  refine ent_sub (l' := doC w b s m x1 x2 x3 σ d d0 fs ls q L x y z r) (Sub.cons (.there .here) (Sub.cons .here (Sub.cons .here (Sub.cons .here (Sub.cons (.there (.there (.there kb))) (Sub.cons (.there (.there .here)) (Sub.cons (.there .here) (Sub.cons .here .refl)))))))) ?_
  refine ent_G_facts (fun sok ho inv hmem => ?_)
  have h8 : d.O ≤ 8 := by rw [ho]; exact sok.order
  have hp1024 : d.pages ≤ 1024 := by
    have h3 : σ.n * 2 ^ σ.order ≤ σ.limit * 2 ^ σ.order := Nat.mul_le_mul_right _ sok.n
    exact Nat.le_trans hmem (Nat.le_trans h3 sok.limit)
  have hpO : 2 ^ d.O ≤ 4096 := Nat.pow_le_pow_right (n := 2) (by omega) (show d.O ≤ 12 by omega)
  have hpO0 : 0 < 2 ^ d.O := Nat.pow_pos (by omega)
  have bok : BookOk L := B.ok h8 (by omega) (by omega)
  have hadlt : ∀ p, p < d.pages → σ.base + 4096 * p < 18446744073709551616 := by
    intro p hp
    have := sok.end_le
    have h4 := size_pages (σ := σ)
    have : 4096 * d.pages ≤ 4096 * (σ.n * 2 ^ σ.order) := Nat.mul_le_mul_left _ hmem
    omega
  have hb4096 : σ.base % 4096 = 0 := by
    have := sok.align
    exact Nat.mod_eq_zero_of_dvd (Nat.dvd_trans (Nat.dvd_mul_right 4096 (2 ^ σ.order)) (Nat.dvd_of_mod_eq_zero this))
  have finW : ∀ (q' : Sl) (L' : List Bl) (σ' : Sp) (d' d0' : D) (l' : List HP), Booked σ' d' L' ∧ Kept σ σ' L L' → σ'.base = σ.base → σ'.limit = σ.limit → σ'.order = σ.order → d0'.live.length ≤ d0.live.length + 1 → L'.length ≤ L.length + 1 →
      Sub l' (isW w b s m σ' d' d0' :: isBook q' L' :: r) → ent e l' (K ((q', ()), true, ())) :=
    fun q' L' σ' d' d0' l' hb e1 e2 e3 e4 e5 hs => ent_sub hs (h q' L' σ' d' d0' hb.1 e1 e2 e3 e4 e5 hb.2)
  have fin : ∀ (q' : Sl) (L' : List Bl) (σ' : Sp) (d' : D) (l' : List HP), Booked σ' d' L' ∧ Kept σ σ' L L' → σ'.base = σ.base → σ'.limit = σ.limit → σ'.order = σ.order → L'.length ≤ L.length + 1 → d'.O = d.O → d'.pages = d.pages →
      Sub l' (wBlk w b s m σ d0 fs ls :: isG noS b s m σ' d' :: isFree d0.O fs d0.free :: isLiveL ls d0.live :: isBook q' L' :: r) → ent e l' (K ((q', ()), true, ())) := by
    intro q' L' σ' d' l' hb e1 e2 e3 e4 e5 e6 hs
    refine finW q' L' σ' d' d0 l' hb e1 e2 e3 (by omega) e4 (Sub.trans hs ?_)
    refine sub_W (fs := fs) (ls := ls) (by rw [hO, e5]) (by rw [hP, e6]) ?_
    unfold wBlk
    rw [e1, e2, e3]
    exact .refl
  have same : ∀ l' : List HP, Sub l' (wBlk w b s m σ d0 fs ls :: isG noS b s m σ d :: isFree d0.O fs d0.free :: isLiveL ls d0.live :: isBook q L :: r) → ent e l' (K ((q, ()), true, ())) :=
    fun l' hs => fin q L σ d l' ⟨B, .refl⟩ rfl rfl rfl (by omega) rfl rfl hs
  refine ent_len (xs := L.map blkOf) (.there (.there (.there (.there .here)))) fun hl => ?_
  rw [List.length_map] at hl
  refine ent_ld q ?_
  refine ent_joinP (A := Nat) (fun i x => x = ((i : Int), ()) ∧ (0 < L.length → i < L.length)) (fun _ => doC w b s m x1 x2 x3 σ d d0 fs ls q L x y z r) (fun i x5 hx5 => ?_) (fun k166 h166 => ?_)
  rotate_left
  · refine ent_gt (fun c => ?_) (fun c => ?_)
    · have c : 0 < L.length := by have c : (0 : Int) < (q.len : Int) := c; omega
      refine ent_ld z ?_
      refine ent_gt (fun c2 => ?_) (fun c2 => ?_)
      · refine ent_ld z ?_
        refine ent_gn (by omega) ?_
        obtain ⟨t, rfl⟩ : ∃ t : Nat, z = t := ⟨z.toNat, by have c2 : (0 : Int) < z := c2; omega⟩
        show ent e _ (k166 ((t : Int).tmod ((q.len : Nat) : Int), ()))
        rw [tmod_nat, hl]
        exact h166 (t % L.length) _ ⟨rfl, fun hh => Nat.mod_lt _ hh⟩
      · exact h166 0 _ ⟨rfl, fun hh => hh⟩
    · exact h166 0 _ ⟨rfl, fun hh => hh⟩
  obtain ⟨rfl, hi⟩ := hx5
  refine ent_joinP (A := Nat) (fun k x => x = ((k : Int), ()) ∧ k ≤ d.O) (fun _ => doC w b s m x1 x2 x3 σ d d0 fs ls q L x y z r) (fun k x6 hx6 => ?_) (fun k162 h162 => ?_)
  rotate_left
  · refine ent_ld y ?_
    refine ent_gt (fun c2 => ?_) (fun c2 => ?_)
    · refine ent_draw ?_
      refine ent_ld y ?_
      refine ent_ld (σ.order : Int) ?_
      rw [wI_succ (by omega)]
      refine ent_gn (by omega) ?_
      obtain ⟨t, rfl⟩ : ∃ t : Nat, y = t := ⟨y.toNat, by have c2 : (0 : Int) < y := c2; omega⟩
      show ent e _ (k162 ((t : Int).tmod ((σ.order + 1 : Nat) : Int), ()))
      rw [tmod_nat]
      refine h162 (t % (σ.order + 1)) _ ⟨rfl, ?_⟩
      have := Nat.mod_lt t (show 0 < σ.order + 1 by omega)
      omega
    · exact h162 0 _ ⟨rfl, Nat.zero_le _⟩
  obtain ⟨rfl, hk⟩ := hx6
  have hpk : 2 ^ k ≤ 4096 := Nat.pow_le_pow_right (n := 2) (by omega) (show k ≤ 12 by omega)
  refine ent_ld x ?_
  refine ent_joinP (A := Bool) (fun t x => x = (t, ())) (fun _ => doC w b s m x1 x2 x3 σ d d0 fs ls q L x y z r) (fun t8 x8 hx8 => ?_) (fun k161 h161 => ?_)
  rotate_left
  · refine ent_eq (fun _ => h161 _ _ rfl) (fun _ => ?_)
    exact ent_eq (fun _ => h161 _ _ rfl) (fun _ => h161 _ _ rfl)
  subst hx8
  refine ent_cond (fun c8 => ?_) (fun c8 => ?_)
  · refine ent_ld (some ⟨b, 0, none⟩) ?_
    refine takeG_ct (σ := σ) (d := d) (x := (k : Int)) (fun hc => absurd hc (by omega)) (fun k' hk' _ hf hd => ?_) (fun k' j p σ' hk' _ hf hp hd hinv hu => ?_)
    · obtain rfl : k' = k := by omega
      refine ent_draw ?_
      refine ent_ldA (q, ()) ?_
      refine ent_ld (d0.pages : Int) ?_
      refine stuck_ct d0.pages k' (by omega) (by omega) bok (fun t ht => ?_)
      obtain rfl : t = true := ht.2 fun p hp hm => B.hits.2 ((stuck_iff inv hk).1 hf p (by omega) hm)
      refine ent_ne (fun _ => ?_) (fun c => absurd c (by decide))
      refine ent_ldA (q, ()) ?_
      refine ent_eq (fun _ => ?_) (fun c => absurd rfl c)
      refine ent_true ?_
      refine ent_st ?_
      refine ent_ldA (q, ()) ?_
      exact same _ (by repeat (first | exact Sub.refl | refine Sub.cons (by with_reducible first | assumption | exact .here | exact .there .here | exact .there (.there .here) | exact .there (.there (.there .here)) | exact .there (.there (.there (.there .here))) | exact .there (.there (.there (.there (.there .here)))) | exact .there (.there (.there (.there (.there (.there .here))))) | exact .there (.there (.there (.there (.there (.there (.there .here)))))) | exact .there (.there (.there (.there (.there (.there (.there (.there .here))))))) | exact .there (.there (.there (.there (.there (.there (.there (.there (.there .here)))))))) | exact .there (.there (.there (.there (.there (.there (.there (.there (.there (.there .here))))))))) | exact .there (.there (.there (.there (.there (.there (.there (.there (.there (.there (.there .here)))))))))) | exact .there (.there (.there (.there (.there (.there (.there (.there (.there (.there (.there (.there .here))))))))))) | exact .there (.there (.there (.there (.there (.there (.there (.there (.there (.there (.there (.there (.there .here))))))))))))) ?_ | refine Sub.drop ?_))
    · obtain rfl : k' = k := by omega
      rw [hd] at hinv ⊢
      have hinv : Inv ((d.pop j p).cut p j k') none := hinv
      obtain ⟨e1, e2, e3⟩ := take_same (d := d) (j := j) (p := p) (k := k')
      obtain ⟨f1, f2, _, _⟩ := first_some hf
      obtain ⟨a1, a2, a3⟩ := (inv.free j p).1 hp
      have hpm : p % 2 ^ k' = 0 := mod_mono a3 f1
      have hpe : p + 2 ^ k' ≤ d.pages := by
        have hlast := block_lt inv.cov.whole hk a1 ((in_block hpm).2 ⟨show p ≤ p + 2 ^ k' - 1 by have := Bd.pow_pos k'; omega, by have := Bd.pow_pos k'; omega⟩)
        omega
      refine ent_draw ?_
      refine ent_ldA (q, ()) ?_
      refine ent_ld (d0.pages : Int) ?_
      refine stuck_ct d0.pages k' (by omega) (by omega) bok (fun t ht => ?_)
      obtain rfl : t = false := by
        cases t with
        | false => rfl
        | true =>
          have := (stuck_iff inv hk).2 fun p hp hm => B.hits.1 (ht.1 rfl p (by omega) hm)
          rw [hf] at this; cases this
      refine ent_ne (fun c => absurd rfl c) (fun _ => ?_)
      refine page_ct5 (base := σ.base) (pages := d0.pages) (σ.ad p) rfl (hadlt p a1) hb4096 (by omega) (fun p' h1 h2 => ?_) (fun hh => absurd (hh p rfl) (by omega))
      obtain rfl : p' = p := by unfold Sp.ad at h1; omega
      refine ent_joinP (A := Unit) (fun _ _ => True) (fun _ => isG noS b s m σ' ((d.pop j p').cut p' j k') :: wBlk w b s m σ d0 fs ls :: isFree d0.O fs d0.free :: isLiveL ls d0.live :: isBook q L ::
        blk x1 42 [.slice q.base q.len q.cap] :: blk x2 46 [vI x, vI y, vI z] :: blk x3 42 [.slice none 0 0] :: r) (fun _ x19 _ => ?_) (fun k37 h37 => ?_)
      · refine ent_draw ?_
        refine ent_ld q ?_
        refine ent_ld q ?_
        refine ent_ld z ?_
        obtain ⟨mk, hmk, hmke⟩ := mark_eq (wI (wI ((q.len : Int) * 7) + z))
        dsimp only
        rw [hmke]
        have fin2 : ∀ q2 : Sl, ∀ l' : List HP, Sub l' (wBlk w b s m σ d0 fs ls :: isG noS b s m σ' ((d.pop j p').cut p' j k') :: isFree d0.O fs d0.free :: isLiveL ls d0.live :: isBook q2 (L ++ [(p', k', mk)]) :: r) → ent e l' (K ((q2, ()), true, ())) :=
          fun q2 l' hs => fin q2 _ σ' _ l' (B.take hinv hu hmk) hu.base hu.limit hu.order (by simp) e3 e2 hs
        refine ent_both (ent_new fun x23 => ?_) (ent_new fun x32 => ?_)
        · refine ent_keepB (ent_keepB (ent_keepB (ent_keep0 ?_)))
          refine ent_both ?_ (ent_new fun x28 => ?_)
          · refine copyBook_ct (q := q) (L := L) (by omega) fun q1 => ?_
            refine ent_keepB (ent_keepB (ent_keep0 ?_))
            refine ent_new fun x25 => ?_
            refine pushBook_ct (q := q1) (L := L) (p', k', mk) (by omega) fun q2 => ?_
            refine ent_st ?_
            refine ent_ldA (q2, ()) ?_
            exact fin2 q2 _ (by repeat (first | exact Sub.refl | refine Sub.cons (by with_reducible first | assumption | exact .here | exact .there .here | exact .there (.there .here) | exact .there (.there (.there .here)) | exact .there (.there (.there (.there .here))) | exact .there (.there (.there (.there (.there .here)))) | exact .there (.there (.there (.there (.there (.there .here))))) | exact .there (.there (.there (.there (.there (.there (.there .here)))))) | exact .there (.there (.there (.there (.there (.there (.there (.there .here))))))) | exact .there (.there (.there (.there (.there (.there (.there (.there (.there .here)))))))) | exact .there (.there (.there (.there (.there (.there (.there (.there (.there (.there .here))))))))) | exact .there (.there (.there (.there (.there (.there (.there (.there (.there (.there (.there .here)))))))))) | exact .there (.there (.there (.there (.there (.there (.there (.there (.there (.there (.there (.there .here))))))))))) | exact .there (.there (.there (.there (.there (.there (.there (.there (.there (.there (.there (.there (.there .here))))))))))))) ?_ | refine Sub.drop ?_))
          · refine ent_keepB (ent_keep0 ?_)
            refine copyBook_ct (q := q) (L := L) (by omega) fun q1 => ?_
            refine pushBook_ct (q := q1) (L := L) (p', k', mk) (by omega) fun q2 => ?_
            refine ent_st ?_
            refine ent_ldA (q2, ()) ?_
            exact fin2 q2 _ (by repeat (first | exact Sub.refl | refine Sub.cons (by with_reducible first | assumption | exact .here | exact .there .here | exact .there (.there .here) | exact .there (.there (.there .here)) | exact .there (.there (.there (.there .here))) | exact .there (.there (.there (.there (.there .here)))) | exact .there (.there (.there (.there (.there (.there .here))))) | exact .there (.there (.there (.there (.there (.there (.there .here)))))) | exact .there (.there (.there (.there (.there (.there (.there (.there .here))))))) | exact .there (.there (.there (.there (.there (.there (.there (.there (.there .here)))))))) | exact .there (.there (.there (.there (.there (.there (.there (.there (.there (.there .here))))))))) | exact .there (.there (.there (.there (.there (.there (.there (.there (.there (.there (.there .here)))))))))) | exact .there (.there (.there (.there (.there (.there (.there (.there (.there (.there (.there (.there .here))))))))))) | exact .there (.there (.there (.there (.there (.there (.there (.there (.there (.there (.there (.there (.there .here))))))))))))) ?_ | refine Sub.drop ?_))
        · refine ent_keepB (ent_keep0 ?_)
          refine ent_new fun x33 => ?_
          refine ent_keepB (ent_keep0 ?_)
          refine copyBook_ct (q := q) (L := L) (by omega) fun q1 => ?_
          refine pushBook_ct (q := q1) (L := L) (p', k', mk) (by omega) fun q2 => ?_
          refine ent_st ?_
          refine ent_ldA (q2, ()) ?_
          exact fin2 q2 _ (by repeat (first | exact Sub.refl | refine Sub.cons (by with_reducible first | assumption | exact .here | exact .there .here | exact .there (.there .here) | exact .there (.there (.there .here)) | exact .there (.there (.there (.there .here))) | exact .there (.there (.there (.there (.there .here)))) | exact .there (.there (.there (.there (.there (.there .here))))) | exact .there (.there (.there (.there (.there (.there (.there .here)))))) | exact .there (.there (.there (.there (.there (.there (.there (.there .here))))))) | exact .there (.there (.there (.there (.there (.there (.there (.there (.there .here)))))))) | exact .there (.there (.there (.there (.there (.there (.there (.there (.there (.there .here))))))))) | exact .there (.there (.there (.there (.there (.there (.there (.there (.there (.there (.there .here)))))))))) | exact .there (.there (.there (.there (.there (.there (.there (.there (.there (.there (.there (.there .here))))))))))) | exact .there (.there (.there (.there (.there (.there (.there (.there (.there (.there (.there (.there (.there .here))))))))))))) ?_ | refine Sub.drop ?_))
      · refine ent_false ?_
        refine ent_lt (fun c => absurd c (by show ¬ (p' : Int) < 0; omega)) (fun _ => ?_)
        dsimp only
        rw [shl_eq (k := k') (by omega), wU_nat (n := k') (by omega)]
        have hpk0 : 0 < 2 ^ k' := Bd.pow_pos k'
        refine ent_g0 (by omega) ?_
        refine ent_gn (by omega) ?_
        show ent e _ (bif (p' : Int).tmod ((2 ^ k' : Nat) : Int) != 0 then _ else _)
        rw [tmod_nat, hpm]
        refine ent_ne (fun c => absurd rfl c) (fun _ => ?_)
        refine ent_g0 (by omega) ?_
        refine ent_ld (d0.pages : Int) ?_
        refine ent_gt (fun c => absurd c ?_) (fun _ => ?_)
        · show ¬ (d0.pages : Int) < wI ((p' : Int) + ((2 ^ k' : Nat) : Int))
          rw [wI_add (by omega)]; omega
        refine ent_ldA (q, ()) ?_
        refine meets_ct p' k' (by omega) (by omega) bok (fun t ht => ?_)
        obtain rfl : t = false := by
          cases t with
          | false => rfl
          | true => exact absurd (B.hits.1 (ht.1 rfl)) (free_no_meet inv hp f1)
        exact ent_false (h37 () _ trivial)
  refine ent_joinP (A := Bool) (fun t x => x = (t, ())) (fun _ => doC w b s m x1 x2 x3 σ d d0 fs ls q L x y z r) (fun t55 x55 hx55 => ?_) (fun k160 h160 => ?_)
  rotate_left
  · exact ent_eq (fun _ => h160 _ _ rfl) (fun _ => h160 _ _ rfl)
  subst hx55
  refine ent_cond (fun c55 => ?_) (fun c55 => ?_)
  · refine ent_eq (fun c0 => ?_) (fun c0 => ?_)
    · refine ent_ldA (q, ()) ?_
      refine ent_st ?_
      refine ent_ldA (q, ()) ?_
      exact same _ (by repeat (first | exact Sub.refl | refine Sub.cons (by with_reducible first | assumption | exact .here | exact .there .here | exact .there (.there .here) | exact .there (.there (.there .here)) | exact .there (.there (.there (.there .here))) | exact .there (.there (.there (.there (.there .here)))) | exact .there (.there (.there (.there (.there (.there .here))))) | exact .there (.there (.there (.there (.there (.there (.there .here)))))) | exact .there (.there (.there (.there (.there (.there (.there (.there .here))))))) | exact .there (.there (.there (.there (.there (.there (.there (.there (.there .here)))))))) | exact .there (.there (.there (.there (.there (.there (.there (.there (.there (.there .here))))))))) | exact .there (.there (.there (.there (.there (.there (.there (.there (.there (.there (.there .here)))))))))) | exact .there (.there (.there (.there (.there (.there (.there (.there (.there (.there (.there (.there .here))))))))))) | exact .there (.there (.there (.there (.there (.there (.there (.there (.there (.there (.there (.there (.there .here))))))))))))) ?_ | refine Sub.drop ?_))
    · have hi : i < L.length := hi (by have c0 : ¬ (q.len : Int) = 0 := c0; omega)
      have hmem := B.mem (List.getElem_mem hi)
      have hpl := ((inv.live _ _).1 hmem).1
      refine ent_ld q ?_
      refine ent_at (sh := sBlk) (xs := L.map blkOf) i (blkOf L[i]) rfl (map_get hi) ?_
      refine ent_new fun x61 => ?_
      refine ent_st ?_
      refine ent_blk [vI L[i].1, vI L[i].2.1, v8 L[i].2.2] ?_
      refine ent_draw ?_
      refine ent_ldA (q, ()) ?_
      refine ent_ld (some ⟨b, 0, none⟩) ?_
      refine ent_ld (L[i].1 : Int) ?_
      refine ent_ld (L[i].2.1 : Int) ?_
      refine without_ct (q := q) (L := L) i (by omega) (by omega) fun q1 => ?_
      refine ent_keepB (ent_keepB (ent_keepB (ent_keep0 ?_)))
      refine at_ct5 (base := σ.base) L[i].1 (hadlt _ hpl) ?_
      refine ent_keepB (ent_keepB (ent_keep0 ?_))
      refine giveG_ct (σ := σ) (d := d) (σ.base + 4096 * L[i].1) rfl (hadlt _ hpl) (fun p k' σ' ha hy hl' _ hinv hu => ?_) (fun hno => absurd (hno L[i].1 L[i].2.1 rfl rfl hmem) (fun h => h))
      obtain rfl : p = L[i].1 := by unfold Sp.ad at ha; omega
      obtain rfl : k' = L[i].2.1 := by have hy : ((L[i].2.1 : Nat) : Int) = (k' : Int) := hy; omega
      refine ent_eq (fun _ => ?_) (fun c => absurd rfl c)
      refine ent_ld (some ⟨b, 0, none⟩) ?_
      refine ent_ld (L[i].1 : Int) ?_
      refine ent_ld (L[i].2.1 : Int) ?_
      refine at_ct5 (base := σ.base) L[i].1 (hadlt _ hpl) ?_
      refine ent_keepB (ent_keepB (ent_keep0 ?_))
      obtain ⟨e1, e2, e3⟩ := give_same (d := d) (k := L[i].2.1) (p := L[i].1)
      refine giveG_ct (σ := σ') (d := d.give L[i].2.1 L[i].1) (σ.base + 4096 * L[i].1) rfl (hadlt _ hpl) (fun p k' σ'' ha hy hl' _ _ _ => ?_) (fun _ => ?_)
      · obtain rfl : p = L[i].1 := by unfold Sp.ad at ha; rw [hu.base] at ha; omega
        rw [e1, List.mem_filter] at hl'
        exact absurd hl'.2 (by simp)
      · refine ent_st ?_
        refine ent_ldA (q1, ()) ?_
        exact fin q1 _ σ' _ _ (B.give hi hinv hu) hu.base hu.limit hu.order (by have := List.length_eraseIdx_le L i; omega) e3 e2 (by repeat (first | exact Sub.refl | refine Sub.cons (by with_reducible first | assumption | exact .here | exact .there .here | exact .there (.there .here) | exact .there (.there (.there .here)) | exact .there (.there (.there (.there .here))) | exact .there (.there (.there (.there (.there .here)))) | exact .there (.there (.there (.there (.there (.there .here))))) | exact .there (.there (.there (.there (.there (.there (.there .here)))))) | exact .there (.there (.there (.there (.there (.there (.there (.there .here))))))) | exact .there (.there (.there (.there (.there (.there (.there (.there (.there .here)))))))) | exact .there (.there (.there (.there (.there (.there (.there (.there (.there (.there .here))))))))) | exact .there (.there (.there (.there (.there (.there (.there (.there (.there (.there (.there .here)))))))))) | exact .there (.there (.there (.there (.there (.there (.there (.there (.there (.there (.there (.there .here))))))))))) | exact .there (.there (.there (.there (.there (.there (.there (.there (.there (.there (.there (.there (.there .here))))))))))))) ?_ | refine Sub.drop ?_))
  refine ent_eq (fun c5 => ?_) (fun c5 => ?_)
  · refine ent_joinP (A := Unit) (fun _ _ => ∃ hh : i < L.length, k ≤ (L[i]'hh).2.1) (fun _ => doC w b s m x1 x2 x3 σ d d0 fs ls q L x y z r) (fun _ x81 hx81 => ?_) (fun k113 h113 => ?_)
    rotate_left
    · refine ent_eq (fun c0 => ?_) (fun c0 => ?_)
      · refine ent_ldA (q, ()) ?_
        refine ent_st ?_
        refine ent_ldA (q, ()) ?_
        exact same _ (by repeat (first | exact Sub.refl | refine Sub.cons (by with_reducible first | assumption | exact .here | exact .there .here | exact .there (.there .here) | exact .there (.there (.there .here)) | exact .there (.there (.there (.there .here))) | exact .there (.there (.there (.there (.there .here)))) | exact .there (.there (.there (.there (.there (.there .here))))) | exact .there (.there (.there (.there (.there (.there (.there .here)))))) | exact .there (.there (.there (.there (.there (.there (.there (.there .here))))))) | exact .there (.there (.there (.there (.there (.there (.there (.there (.there .here)))))))) | exact .there (.there (.there (.there (.there (.there (.there (.there (.there (.there .here))))))))) | exact .there (.there (.there (.there (.there (.there (.there (.there (.there (.there (.there .here)))))))))) | exact .there (.there (.there (.there (.there (.there (.there (.there (.there (.there (.there (.there .here))))))))))) | exact .there (.there (.there (.there (.there (.there (.there (.there (.there (.there (.there (.there (.there .here))))))))))))) ?_ | refine Sub.drop ?_))
      · have hi : i < L.length := hi (by have c0 : ¬ (q.len : Int) = 0 := c0; omega)
        refine ent_ld q ?_
        refine ent_fld (ks := [kI, kI, k8]) (xs := L.map blkOf) i 1 (blkOf L[i]) ((L[i].2.1 : Nat) : Int) rfl (map_get hi) ?_
        refine ent_lt (fun c => ?_) (fun c => ?_)
        · refine ent_ldA (q, ()) ?_
          refine ent_st ?_
          refine ent_ldA (q, ()) ?_
          exact same _ (by repeat (first | exact Sub.refl | refine Sub.cons (by with_reducible first | assumption | exact .here | exact .there .here | exact .there (.there .here) | exact .there (.there (.there .here)) | exact .there (.there (.there (.there .here))) | exact .there (.there (.there (.there (.there .here)))) | exact .there (.there (.there (.there (.there (.there .here))))) | exact .there (.there (.there (.there (.there (.there (.there .here)))))) | exact .there (.there (.there (.there (.there (.there (.there (.there .here))))))) | exact .there (.there (.there (.there (.there (.there (.there (.there (.there .here)))))))) | exact .there (.there (.there (.there (.there (.there (.there (.there (.there (.there .here))))))))) | exact .there (.there (.there (.there (.there (.there (.there (.there (.there (.there (.there .here)))))))))) | exact .there (.there (.there (.there (.there (.there (.there (.there (.there (.there (.there (.there .here))))))))))) | exact .there (.there (.there (.there (.there (.there (.there (.there (.there (.there (.there (.there (.there .here))))))))))))) ?_ | refine Sub.drop ?_))
        · exact h113 () _ ⟨hi, by have c : (k : Int) ≤ ((L[i].2.1 : Nat) : Int) := c; omega⟩
    · obtain ⟨hi, hkl⟩ := hx81
      have hmem := B.mem (List.getElem_mem hi)
      have hpl := ((inv.live _ _).1 hmem).1
      refine ent_ld q ?_
      refine ent_at (sh := sBlk) (xs := L.map blkOf) i (blkOf L[i]) rfl (map_get hi) ?_
      refine ent_new fun x85 => ?_
      refine ent_st ?_
      refine ent_blk [vI L[i].1, vI L[i].2.1, v8 L[i].2.2] ?_
      refine ent_draw ?_
      refine ent_ld (some ⟨b, 0, none⟩) ?_
      refine ent_ld (L[i].1 : Int) ?_
      refine ent_ld (L[i].2.1 : Int) ?_
      refine at_ct5 (base := σ.base) L[i].1 (hadlt _ hpl) ?_
      refine ent_keepB (ent_keepB (ent_keep0 ?_))
      refine shrinkG_ct (σ := σ) (d := d) (z := (k : Int)) (σ.base + 4096 * L[i].1) rfl (hadlt _ hpl) (fun p k' t σ' ha hy hz htk hl' _ hinv hu => ?_)
        (fun hno => absurd ⟨by omega, by show (k : Int) ≤ ((L[i].2.1 : Nat) : Int); omega⟩ (hno L[i].1 L[i].2.1 rfl rfl hmem (fun h => h)))
      obtain rfl : p = L[i].1 := by unfold Sp.ad at ha; omega
      obtain rfl : k' = L[i].2.1 := by have hy : ((L[i].2.1 : Nat) : Int) = (k' : Int) := hy; omega
      obtain rfl : t = k := by omega
      obtain ⟨e1, e2, e3⟩ := shrink_same (d := d) (p := L[i].1) (fr := L[i].2.1) (to := t)
      have fin2 : ∀ q2 : Sl, ∀ l' : List HP, Sub l' (wBlk w b s m σ d0 fs ls :: isG noS b s m σ' (d.shrink L[i].1 L[i].2.1 t) :: isFree d0.O fs d0.free :: isLiveL ls d0.live :: isBook q2 (L.eraseIdx i ++ [(L[i].1, t, L[i].2.2)]) :: r) → ent e l' (K ((q2, ()), true, ())) :=
        fun q2 l' hs => fin q2 _ σ' _ l' (B.shrink hi htk hinv hu) hu.base hu.limit hu.order (by rw [List.length_append, List.length_eraseIdx_of_lt hi, List.length_singleton]; omega) e3 e2 hs
      have hle : (L.eraseIdx i).length ≤ 100000 := by have := List.length_eraseIdx_le L i; omega
      refine ent_st ?_
      refine ent_blk [vI L[i].1, vI t, v8 L[i].2.2] ?_
      refine ent_ldA (q, ()) ?_
      refine without_ct (q := q) (L := L) i (by omega) (by omega) fun q0 => ?_
      refine ent_new fun x93 => ?_
      refine ent_st ?_
      refine ent_blk [.slice q0.base q0.len q0.cap] ?_
      refine ent_draw ?_
      refine ent_ld q0 ?_
      refine ent_ldA ((L[i].1 : Int), (t : Int), (L[i].2.2 : Int), ()) ?_
      refine ent_both (ent_new fun x96 => ?_) (ent_new fun x105 => ?_)
      · refine ent_keepA (ent_keepB (ent_keep0 ?_))
        refine ent_both ?_ (ent_new fun x101 => ?_)
        · refine copyBook_ct (q := q0) (L := L.eraseIdx i) hle fun q1 => ?_
          refine ent_keepA (ent_keep0 ?_)
          refine ent_new fun x98 => ?_
          refine pushBook_ct (q := q1) (L := L.eraseIdx i) (L[i].1, t, L[i].2.2) hle fun q2 => ?_
          refine ent_st ?_
          refine ent_ldA (q2, ()) ?_
          exact fin2 q2 _ (by repeat (first | exact Sub.refl | refine Sub.cons (by with_reducible first | assumption | exact .here | exact .there .here | exact .there (.there .here) | exact .there (.there (.there .here)) | exact .there (.there (.there (.there .here))) | exact .there (.there (.there (.there (.there .here)))) | exact .there (.there (.there (.there (.there (.there .here))))) | exact .there (.there (.there (.there (.there (.there (.there .here)))))) | exact .there (.there (.there (.there (.there (.there (.there (.there .here))))))) | exact .there (.there (.there (.there (.there (.there (.there (.there (.there .here)))))))) | exact .there (.there (.there (.there (.there (.there (.there (.there (.there (.there .here))))))))) | exact .there (.there (.there (.there (.there (.there (.there (.there (.there (.there (.there .here)))))))))) | exact .there (.there (.there (.there (.there (.there (.there (.there (.there (.there (.there (.there .here))))))))))) | exact .there (.there (.there (.there (.there (.there (.there (.there (.there (.there (.there (.there (.there .here))))))))))))) ?_ | refine Sub.drop ?_))
        · refine ent_keepB (ent_keep0 ?_)
          refine copyBook_ct (q := q0) (L := L.eraseIdx i) hle fun q1 => ?_
          refine pushBook_ct (q := q1) (L := L.eraseIdx i) (L[i].1, t, L[i].2.2) hle fun q2 => ?_
          refine ent_st ?_
          refine ent_ldA (q2, ()) ?_
          exact fin2 q2 _ (by repeat (first | exact Sub.refl | refine Sub.cons (by with_reducible first | assumption | exact .here | exact .there .here | exact .there (.there .here) | exact .there (.there (.there .here)) | exact .there (.there (.there (.there .here))) | exact .there (.there (.there (.there (.there .here)))) | exact .there (.there (.there (.there (.there (.there .here))))) | exact .there (.there (.there (.there (.there (.there (.there .here)))))) | exact .there (.there (.there (.there (.there (.there (.there (.there .here))))))) | exact .there (.there (.there (.there (.there (.there (.there (.there (.there .here)))))))) | exact .there (.there (.there (.there (.there (.there (.there (.there (.there (.there .here))))))))) | exact .there (.there (.there (.there (.there (.there (.there (.there (.there (.there (.there .here)))))))))) | exact .there (.there (.there (.there (.there (.there (.there (.there (.there (.there (.there (.there .here))))))))))) | exact .there (.there (.there (.there (.there (.there (.there (.there (.there (.there (.there (.there (.there .here))))))))))))) ?_ | refine Sub.drop ?_))
      · refine ent_keepB (ent_keep0 ?_)
        refine ent_new fun x106 => ?_
        refine ent_keepB (ent_keep0 ?_)
        refine copyBook_ct (q := q0) (L := L.eraseIdx i) hle fun q1 => ?_
        refine pushBook_ct (q := q1) (L := L.eraseIdx i) (L[i].1, t, L[i].2.2) hle fun q2 => ?_
        refine ent_st ?_
        refine ent_ldA (q2, ()) ?_
        exact fin2 q2 _ (by repeat (first | exact Sub.refl | refine Sub.cons (by with_reducible first | assumption | exact .here | exact .there .here | exact .there (.there .here) | exact .there (.there (.there .here)) | exact .there (.there (.there (.there .here))) | exact .there (.there (.there (.there (.there .here)))) | exact .there (.there (.there (.there (.there (.there .here))))) | exact .there (.there (.there (.there (.there (.there (.there .here)))))) | exact .there (.there (.there (.there (.there (.there (.there (.there .here))))))) | exact .there (.there (.there (.there (.there (.there (.there (.there (.there .here)))))))) | exact .there (.there (.there (.there (.there (.there (.there (.there (.there (.there .here))))))))) | exact .there (.there (.there (.there (.there (.there (.there (.there (.there (.there (.there .here)))))))))) | exact .there (.there (.there (.there (.there (.there (.there (.there (.there (.there (.there (.there .here))))))))))) | exact .there (.there (.there (.there (.there (.there (.there (.there (.there (.there (.there (.there (.there .here))))))))))))) ?_ | refine Sub.drop ?_))
  refine ent_eq (fun c6 => ?_) (fun c6 => ?_)
  · refine ent_draw ?_
    refine ent_ldA (q, ()) ?_
    refine ent_ld (some ⟨s, 0, none⟩) ?_
    refine ent_ld (σ.limit : Int) ?_
    refine regionsG_ct ?_
    refine ent_keepB (ent_keepB (ent_keep0 ?_))
    refine ent_eq (fun c => ?_) (fun c => ?_)
    · refine ent_st ?_
      refine ent_ldA (q, ()) ?_
      exact same _ (by repeat (first | exact Sub.refl | refine Sub.cons (by with_reducible first | assumption | exact .here | exact .there .here | exact .there (.there .here) | exact .there (.there (.there .here)) | exact .there (.there (.there (.there .here))) | exact .there (.there (.there (.there (.there .here)))) | exact .there (.there (.there (.there (.there (.there .here))))) | exact .there (.there (.there (.there (.there (.there (.there .here)))))) | exact .there (.there (.there (.there (.there (.there (.there (.there .here))))))) | exact .there (.there (.there (.there (.there (.there (.there (.there (.there .here)))))))) | exact .there (.there (.there (.there (.there (.there (.there (.there (.there (.there .here))))))))) | exact .there (.there (.there (.there (.there (.there (.there (.there (.there (.there (.there .here)))))))))) | exact .there (.there (.there (.there (.there (.there (.there (.there (.there (.there (.there (.there .here))))))))))) | exact .there (.there (.there (.there (.there (.there (.there (.there (.there (.there (.there (.there (.there .here))))))))))))) ?_ | refine Sub.drop ?_))
    · have c : ¬ ((σ.n : Nat) : Int) = ((σ.limit : Nat) : Int) := c
      have hn : σ.n < σ.limit := by have := sok.n; omega
      refine ent_sub (l' := isW w b s m σ d d0 :: isBook q L :: blk x1 42 [.slice q.base q.len q.cap] :: blk x2 46 [vI x, vI y, vI z] :: blk x3 42 [.slice none 0 0] :: r) (sub_W hO hP (by repeat (first | exact Sub.refl | refine Sub.cons (by with_reducible first | assumption | exact .here | exact .there .here | exact .there (.there .here) | exact .there (.there (.there .here)) | exact .there (.there (.there (.there .here))) | exact .there (.there (.there (.there (.there .here)))) | exact .there (.there (.there (.there (.there (.there .here))))) | exact .there (.there (.there (.there (.there (.there (.there .here)))))) | exact .there (.there (.there (.there (.there (.there (.there (.there .here))))))) | exact .there (.there (.there (.there (.there (.there (.there (.there (.there .here)))))))) | exact .there (.there (.there (.there (.there (.there (.there (.there (.there (.there .here))))))))) | exact .there (.there (.there (.there (.there (.there (.there (.there (.there (.there (.there .here)))))))))) | exact .there (.there (.there (.there (.there (.there (.there (.there (.there (.there (.there (.there .here))))))))))) | exact .there (.there (.there (.there (.there (.there (.there (.there (.there (.there (.there (.there (.there .here))))))))))))) ?_ | refine Sub.drop ?_))) ?_
      refine come_ct (σ := σ) (d := d) (d0 := d0) hn B.sync (by omega) ?_
      refine ent_keepB (ent_keep0 ?_)
      refine ent_true ?_
      refine ent_W (fun fs' ls' hO' hP' => ?_)
      refine ent_ld (some ⟨b, 0, none⟩) ?_
      have htop : d.come.top = d.pages := by show d.pages + 2 ^ d.O - 2 ^ d.O = d.pages; omega
      have hsync : synced σ.grown d.come := by
        have := B.sync
        unfold synced at *
        show d.pages + 2 ^ d.O = (σ.n + 1) * 2 ^ σ.order
        rw [Nat.succ_mul, this, ho]
      refine feedG_ct (σ := σ.grown) (d := d.come) (fun σ' _ _ _ _ hinv hu => ?_) (fun hno => ?_)
      · rw [htop] at hinv hu ⊢
        refine ent_keepB (ent_keep0 ?_)
        refine ent_st ?_
        refine ent_ldA (q, ()) ?_
        obtain ⟨e1, e2, e3⟩ := give_same (d := d.come) (k := d.O) (p := d.pages)
        have hll : d0.come.live.length ≤ d0.live.length + 1 := by show (d0.live ++ [(d0.pages, d0.O)]).length ≤ _; rw [List.length_append]; exact Nat.le_refl _
        refine finW q L σ' _ d0.come _ (B.come ho hinv hu) hu.base hu.limit hu.order hll (by omega) ?_
        refine sub_W (fs := fs') (ls := ls') (by rw [hO', e3]) (by rw [hP', e2]) ?_
        unfold wBlk
        rw [hu.base, hu.limit, hu.order]
        exact (by repeat (first | exact Sub.refl | refine Sub.cons (by with_reducible first | assumption | exact .here | exact .there .here | exact .there (.there .here) | exact .there (.there (.there .here)) | exact .there (.there (.there (.there .here))) | exact .there (.there (.there (.there (.there .here)))) | exact .there (.there (.there (.there (.there (.there .here))))) | exact .there (.there (.there (.there (.there (.there (.there .here)))))) | exact .there (.there (.there (.there (.there (.there (.there (.there .here))))))) | exact .there (.there (.there (.there (.there (.there (.there (.there (.there .here)))))))) | exact .there (.there (.there (.there (.there (.there (.there (.there (.there (.there .here))))))))) | exact .there (.there (.there (.there (.there (.there (.there (.there (.there (.there (.there .here)))))))))) | exact .there (.there (.there (.there (.there (.there (.there (.there (.there (.there (.there (.there .here))))))))))) | exact .there (.there (.there (.there (.there (.there (.there (.there (.there (.there (.there (.there (.there .here))))))))))))) ?_ | refine Sub.drop ?_))
      · refine absurd (hno hsync (by show 0 < d.pages + 2 ^ d.O; omega) ?_) (fun h => h)
        rw [htop]
        show (d.pages, d.O) ∈ d.live ++ [(d.pages, d.O)]
        simp
  · refine ent_draw ?_
    refine ent_ld (d0.pages : Int) ?_
    refine ent_ld (σ.order : Int) ?_
    dsimp only
    rw [shl_eq (k := σ.order) (by omega), wU_nat (n := σ.order) (by omega)]
    refine ent_g0 (by omega) ?_
    refine ent_joinP (A := Unit) (fun _ _ => 0 < d.pages ∧ ¬ Bd.meets d.live d.top d.O) (fun _ => doC w b s m x1 x2 x3 σ d d0 fs ls q L x y z r) (fun _ x136 hx => ?_) (fun k145 h145 => ?_)
    · obtain ⟨h0, hno⟩ := hx
      have hfree := (top_free_iff inv h0).2 hno
      refine ent_draw ?_
      refine ent_ldA (q, ()) ?_
      refine ent_ld (some ⟨b, 0, none⟩) ?_
      refine pullG_ct (σ := σ) (d := d) (fun σ' _ _ _ hinv hu => ?_) (fun hn => absurd hfree (hn B.sync h0))
      refine ent_keepB (ent_keep0 ?_)
      refine ent_eq (fun _ => ?_) (fun c => absurd rfl c)
      refine ent_sub (l' := isW w b s m σ' d.pull d0 :: isBook q L :: blk x1 42 [.slice q.base q.len q.cap] :: blk x2 46 [vI x, vI y, vI z] :: blk x3 42 [.slice none 0 0] :: r) (sub_W (fs := fs) (ls := ls) hO hP ?_) ?_
      · unfold wBlk
        rw [hu.base, hu.limit, hu.order]
        exact (by repeat (first | exact Sub.refl | refine Sub.cons (by with_reducible first | assumption | exact .here | exact .there .here | exact .there (.there .here) | exact .there (.there (.there .here)) | exact .there (.there (.there (.there .here))) | exact .there (.there (.there (.there (.there .here)))) | exact .there (.there (.there (.there (.there (.there .here))))) | exact .there (.there (.there (.there (.there (.there (.there .here)))))) | exact .there (.there (.there (.there (.there (.there (.there (.there .here))))))) | exact .there (.there (.there (.there (.there (.there (.there (.there (.there .here)))))))) | exact .there (.there (.there (.there (.there (.there (.there (.there (.there (.there .here))))))))) | exact .there (.there (.there (.there (.there (.there (.there (.there (.there (.there (.there .here)))))))))) | exact .there (.there (.there (.there (.there (.there (.there (.there (.there (.there (.there (.there .here))))))))))) | exact .there (.there (.there (.there (.there (.there (.there (.there (.there (.there (.there (.there (.there .here))))))))))))) ?_ | refine Sub.drop ?_))
      have hl' : (d.pull.top, d.pull.O) ∈ d.pull.live := by
        show (d.top, d.O) ∈ d.live ++ [(d.top, d.O)]
        simp
      refine goes_ct (σ := σ') (d := d.pull) (d0 := d0) (by have := B.sync; unfold synced at *; rw [hu.n, hu.order]; exact this) h0 hl' (by omega) ?_
      refine ent_keepB (ent_keep0 ?_)
      refine ent_st ?_
      refine ent_ldA (q, ()) ?_
      exact finW q L (σ'.less 1) _ d0.go _ (B.gone ho (hinv.go hl') h0 hfree hu) hu.base hu.limit hu.order (Nat.le_trans (List.length_filter_le _ _) (by omega)) (by omega) (by repeat (first | exact Sub.refl | refine Sub.cons (by with_reducible first | assumption | exact .here | exact .there .here | exact .there (.there .here) | exact .there (.there (.there .here)) | exact .there (.there (.there (.there .here))) | exact .there (.there (.there (.there (.there .here)))) | exact .there (.there (.there (.there (.there (.there .here))))) | exact .there (.there (.there (.there (.there (.there (.there .here)))))) | exact .there (.there (.there (.there (.there (.there (.there (.there .here))))))) | exact .there (.there (.there (.there (.there (.there (.there (.there (.there .here)))))))) | exact .there (.there (.there (.there (.there (.there (.there (.there (.there (.there .here))))))))) | exact .there (.there (.there (.there (.there (.there (.there (.there (.there (.there (.there .here)))))))))) | exact .there (.there (.there (.there (.there (.there (.there (.there (.there (.there (.there (.there .here))))))))))) | exact .there (.there (.there (.there (.there (.there (.there (.there (.there (.there (.there (.there (.there .here))))))))))))) ?_ | refine Sub.drop ?_))
    · have hle : 0 < d.pages → 2 ^ σ.order ≤ d.pages := fun h0 => by rw [← ho]; exact Nat.le_of_dvd h0 (Nat.dvd_of_mod_eq_zero inv.cov.whole)
      have hso : 2 ^ σ.order ≤ 4096 := by rw [← ho]; exact hpO
      have hso0 : 0 < 2 ^ σ.order := Nat.pow_pos (by omega)
      refine ent_draw ?_
      refine ent_lt (fun c => ?_) (fun c => ?_)
      · have h0 : ¬ 0 < d.pages := fun h0 => by
          have := hle h0
          rw [hP, wI_sub (by omega) (by omega)] at c
          omega
        refine ent_draw ?_
        refine ent_ldA (q, ()) ?_
        refine ent_ld (some ⟨b, 0, none⟩) ?_
        refine pullG_ct (σ := σ) (d := d) (fun σ' _ h1 _ _ _ => absurd h1 h0) (fun _ => ?_)
        refine ent_keepB (ent_keep0 ?_)
        refine ent_st ?_
        refine ent_ldA (q, ()) ?_
        exact same _ (by repeat (first | exact Sub.refl | refine Sub.cons (by with_reducible first | assumption | exact .here | exact .there .here | exact .there (.there .here) | exact .there (.there (.there .here)) | exact .there (.there (.there (.there .here))) | exact .there (.there (.there (.there (.there .here)))) | exact .there (.there (.there (.there (.there (.there .here))))) | exact .there (.there (.there (.there (.there (.there (.there .here)))))) | exact .there (.there (.there (.there (.there (.there (.there (.there .here))))))) | exact .there (.there (.there (.there (.there (.there (.there (.there (.there .here)))))))) | exact .there (.there (.there (.there (.there (.there (.there (.there (.there (.there .here))))))))) | exact .there (.there (.there (.there (.there (.there (.there (.there (.there (.there (.there .here)))))))))) | exact .there (.there (.there (.there (.there (.there (.there (.there (.there (.there (.there (.there .here))))))))))) | exact .there (.there (.there (.there (.there (.there (.there (.there (.there (.there (.there (.there (.there .here))))))))))))) ?_ | refine Sub.drop ?_))
      · have h0 : 0 < d.pages := by
          refine Nat.pos_of_ne_zero fun hz => ?_
          rw [hP, hz, wI_of (by omega) (by omega)] at c
          omega
        have hle := hle h0
        have htop : d0.pages - 2 ^ σ.order = d.top := by rw [hP, ← ho]; rfl
        refine ent_ldA (q, ()) ?_
        refine ent_ld (σ.order : Int) ?_
        dsimp only
        rw [wI_sub (a := d0.pages) (by omega) (by omega), htop]
        refine meets_ct d.top σ.order (by omega) (by unfold D.top; omega) bok (fun t ht => ?_)
        rw [B.hits, ← ho] at ht
        refine ent_cond (fun ct => ?_) (fun ct => ?_)
        · have ct : t = true := ct
          subst ct
          refine ent_draw ?_
          refine ent_ldA (q, ()) ?_
          refine ent_ld (some ⟨b, 0, none⟩) ?_
          refine pullG_ct (σ := σ) (d := d) (fun σ' _ _ h2 _ _ => absurd (ht.1 rfl) ((top_free_iff inv h0).1 h2)) (fun _ => ?_)
          refine ent_keepB (ent_keep0 ?_)
          refine ent_st ?_
          refine ent_ldA (q, ()) ?_
          exact same _ (by repeat (first | exact Sub.refl | refine Sub.cons (by with_reducible first | assumption | exact .here | exact .there .here | exact .there (.there .here) | exact .there (.there (.there .here)) | exact .there (.there (.there (.there .here))) | exact .there (.there (.there (.there (.there .here)))) | exact .there (.there (.there (.there (.there (.there .here))))) | exact .there (.there (.there (.there (.there (.there (.there .here)))))) | exact .there (.there (.there (.there (.there (.there (.there (.there .here))))))) | exact .there (.there (.there (.there (.there (.there (.there (.there (.there .here)))))))) | exact .there (.there (.there (.there (.there (.there (.there (.there (.there (.there .here))))))))) | exact .there (.there (.there (.there (.there (.there (.there (.there (.there (.there (.there .here)))))))))) | exact .there (.there (.there (.there (.there (.there (.there (.there (.there (.there (.there (.there .here))))))))))) | exact .there (.there (.there (.there (.there (.there (.there (.there (.there (.there (.there (.there (.there .here))))))))))))) ?_ | refine Sub.drop ?_))
        · have ct : t = false := ct
          subst ct
          exact h145 () _ ⟨h0, fun hm => absurd (ht.2 hm) (by decide)⟩

end Go.Proofs.Ytdmfnlcbfmahhaa
