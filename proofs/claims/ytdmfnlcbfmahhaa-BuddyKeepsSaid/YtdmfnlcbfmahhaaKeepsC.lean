/- BuddyKeeps, whatever the deeds. -/
import Derived.Test.YtdmfnlcbfmahhaaExactC
import Derived.Test.YtdmfnlcbfmahhaaReadC
import Derived.Test.YtdmfnlcbfmahhaaNfKeep
namespace Go.Proofs.Ytdmfnlcbfmahhaa
open Go Hl Bd Go.RowKit
set_option maxRecDepth 100000

variable {W : World} {e : Still} {l l1 r : List HP} {w b s m : Nat} {σ : Sp} {d d0 : D}

/-- All bytes of a stretch are one number. -/
def Full (σ : Sp) (p k v : Nat) : Prop := ∀ i, i < 4096 * 2 ^ k → σ.mem (4096 * p + i) = v

theorem Full.same {σ σ' : Sp} {p k k' v : Nat} (h : Full σ p k v) (hk : k' ≤ k) (hs : ∀ q, p ≤ q → q < p + 2 ^ k' → Same σ σ' q) : Full σ' p k' v := by
  intro i hi
  have hpw : 2 ^ k' ≤ 2 ^ k := Nat.pow_le_pow_right (by omega) hk
  have := hs (p + i / 4096) (by omega) (by omega) (i % 4096) (by omega)
  rw [show 4096 * (p + i / 4096) + i % 4096 = 4096 * p + i by omega] at this
  rw [this]
  exact h i (by omega)

theorem shl4096U {k : Nat} (h : k ≤ 12) : wU (4096 * 2 ^ min (wU (k : Int)).toNat 64) = ((4096 * 2 ^ k : Nat) : Int) := by
  have hp : 2 ^ k ≤ 4096 := Nat.pow_le_pow_right (n := 2) (by omega) h
  rw [wU_nat (by omega), Int.toNat_natCast, Nat.min_eq_left (by omega), show (4096 : Int) * 2 ^ k = ((4096 * 2 ^ k : Nat) : Int) by rw [Int.natCast_mul, Int.natCast_pow]; rfl]
  generalize 2 ^ k = w at hp ⊢
  rw [wU_nat (by omega)]

theorem shl4096I {k : Nat} (h : k ≤ 12) : wI (4096 * 2 ^ min (wU (k : Int)).toNat 64) = ((4096 * 2 ^ k : Nat) : Int) := by
  have hp : 2 ^ k ≤ 4096 := Nat.pow_le_pow_right (n := 2) (by omega) h
  rw [wU_nat (by omega), Int.toNat_natCast, Nat.min_eq_left (by omega), show (4096 : Int) * 2 ^ k = ((4096 * 2 ^ k : Nat) : Int) by rw [Int.natCast_mul, Int.natCast_pow]; rfl]
  generalize 2 ^ k = w at hp ⊢
  rw [wI_nat (by omega)]

/-- Bytes are read; the buddy stays. -/
theorem readG_ct {S : Nat → Prop} {x y : Int} {K : Tup [sS, sI] → World → Prop} {KP : List PanicEntry → World → Prop} (p n : Nat) (hx : x = p) (hy : y = n) (hn : n < 18446744073709551616) (hp : p < 18446744073709551616)
    (h1 : σ.has p n → ∀ q : Sl, ent e (isG S b s m σ d :: arr 5 s8 q (σ.ints p n) :: r) (K (q, 0, ()))) (h2 : ¬ σ.has p n → ent e l (K (⟨none, 0, 0⟩, 4, ()))) (k : Take l (isG S b s m σ d) r := by with_reducible first | assumption | exact .here | exact .there .here | exact .there (.there .here) | exact .there (.there (.there .here)) | exact .there (.there (.there (.there .here))) | exact .there (.there (.there (.there (.there .here)))) | exact .there (.there (.there (.there (.there (.there .here))))) | exact .there (.there (.there (.there (.there (.there (.there .here)))))) | exact .there (.there (.there (.there (.there (.there (.there (.there .here))))))) | exact .there (.there (.there (.there (.there (.there (.there (.there (.there .here)))))))) | exact .there (.there (.there (.there (.there (.there (.there (.there (.there (.there .here))))))))) | exact .there (.there (.there (.there (.there (.there (.there (.there (.there (.there (.there .here)))))))))) | exact .there (.there (.there (.there (.there (.there (.there (.there (.there (.there (.there (.there .here))))))))))) | exact .there (.there (.there (.there (.there (.there (.there (.there (.there (.there (.there (.there (.there .here))))))))))))) :
    ent e l ((wpM PR).call 63 [vP s, vU x, vU y] [sS, sI] K KP) := by
  refine ent_G (fun μ heads R => ?_) k
  refine ent_B (fun okb => ?_) .here
  refine read_ct (s := s) (σ := σ) p n hx hy hn hp (fun h q => ?_) (fun h => ?_)
  · exact ent_sub (sub_G R (sub_B ⟨σ, μ, heads⟩ okb (Sub.cons .here (Sub.cons (.there .here) (Sub.cons (.there .here) (Sub.cons .here .refl)))))) (h1 h q)
  · exact ent_sub (Sub.trans (sub_G R (sub_B ⟨σ, μ, heads⟩ okb (by repeat (first | exact Sub.refl | refine Sub.cons (by with_reducible first | assumption | exact .here | exact .there .here | exact .there (.there .here) | exact .there (.there (.there .here)) | exact .there (.there (.there (.there .here))) | exact .there (.there (.there (.there (.there .here)))) | exact .there (.there (.there (.there (.there (.there .here))))) | exact .there (.there (.there (.there (.there (.there (.there .here)))))) | exact .there (.there (.there (.there (.there (.there (.there (.there .here))))))) | exact .there (.there (.there (.there (.there (.there (.there (.there (.there .here)))))))) | exact .there (.there (.there (.there (.there (.there (.there (.there (.there (.there .here))))))))) | exact .there (.there (.there (.there (.there (.there (.there (.there (.there (.there (.there .here)))))))))) | exact .there (.there (.there (.there (.there (.there (.there (.there (.there (.there (.there (.there .here))))))))))) | exact .there (.there (.there (.there (.there (.there (.there (.there (.there (.there (.there (.there (.there .here))))))))))))) ?_ | refine Sub.drop ?_)))) (Sub.untake k)) (h2 h)

theorem marked_ct {fs ls : Sl} {K : Tup [sB] → World → Prop} {KP : List PanicEntry → World → Prop} (p k v : Nat) (hk : k ≤ 8) (hp : p + 2 ^ k ≤ d.pages) (hf : Full σ p k v)
    (h : ent e (wBlk w b s m σ d0 fs ls :: isG noS b s m σ d :: r) (K (true, ()))) (kw : Take l (wBlk w b s m σ d0 fs ls) l1 := by with_reducible first | assumption | exact .here | exact .there .here | exact .there (.there .here) | exact .there (.there (.there .here)) | exact .there (.there (.there (.there .here))) | exact .there (.there (.there (.there (.there .here)))) | exact .there (.there (.there (.there (.there (.there .here))))) | exact .there (.there (.there (.there (.there (.there (.there .here)))))) | exact .there (.there (.there (.there (.there (.there (.there (.there .here))))))) | exact .there (.there (.there (.there (.there (.there (.there (.there (.there .here)))))))) | exact .there (.there (.there (.there (.there (.there (.there (.there (.there (.there .here))))))))) | exact .there (.there (.there (.there (.there (.there (.there (.there (.there (.there (.there .here)))))))))) | exact .there (.there (.there (.there (.there (.there (.there (.there (.there (.there (.there (.there .here))))))))))) | exact .there (.there (.there (.there (.there (.there (.there (.there (.there (.there (.there (.there (.there .here))))))))))))) (kg : Take l1 (isG noS b s m σ d) r := by with_reducible first | assumption | exact .here | exact .there .here | exact .there (.there .here) | exact .there (.there (.there .here)) | exact .there (.there (.there (.there .here))) | exact .there (.there (.there (.there (.there .here)))) | exact .there (.there (.there (.there (.there (.there .here))))) | exact .there (.there (.there (.there (.there (.there (.there .here)))))) | exact .there (.there (.there (.there (.there (.there (.there (.there .here))))))) | exact .there (.there (.there (.there (.there (.there (.there (.there (.there .here)))))))) | exact .there (.there (.there (.there (.there (.there (.there (.there (.there (.there .here))))))))) | exact .there (.there (.there (.there (.there (.there (.there (.there (.there (.there (.there .here)))))))))) | exact .there (.there (.there (.there (.there (.there (.there (.there (.there (.there (.there (.there .here))))))))))) | exact .there (.there (.there (.there (.there (.there (.there (.there (.there (.there (.there (.there (.there .here))))))))))))) :
    ent e l ((wpM PR).call 27 [vP w, .agg #[vI (p : Int), vI (k : Int), v8 (v : Int)]] [sB] K KP) := by
  refine ent_call (fn := Go.Proofs.Try.f27) (by kernel_rfl) ?_
  rw [nf27_eq]
  have hpk : 2 ^ k ≤ 4096 := Nat.pow_le_pow_right (n := 2) (by omega) (show k ≤ 12 by omega)
  have hpk0 : 0 < 2 ^ k := Nat.pow_pos (by omega)
  refine ent_new fun x1 => ?_
  refine ent_sub (l' := wBlk w b s m σ d0 fs ls :: isG noS b s m σ d :: blk x1 49 [vI p, vI k, v8 v] :: r) (Sub.cons (.there kw) (Sub.cons (.there kg) (Sub.cons .here .refl))) ?_
  refine ent_G_facts (fun sok ho inv hmem => ?_)
  have he := sok.end_le
  have h4 := size_pages (σ := σ)
  have h5 : 4096 * d.pages ≤ 4096 * (σ.n * 2 ^ σ.order) := Nat.mul_le_mul_left _ hmem
  have h6 : 4096 * (p + 2 ^ k) ≤ 4096 * d.pages := Nat.mul_le_mul_left _ hp
  refine ent_draw ?_
  refine ent_ld (some ⟨s, 0, none⟩) ?_
  refine ent_ld (p : Int) ?_
  refine ent_ld (k : Int) ?_
  refine ent_g0 (by rw [wU_nat (by omega)]; omega) ?_
  refine at_ct5 (base := σ.base) p (by omega) ?_
  refine ent_keepB (ent_keepB (ent_keep0 ?_))
  dsimp only
  rw [shl4096U (by omega)]
  refine readG_ct (σ := σ) (d := d) (σ.base + 4096 * p) (4096 * 2 ^ k) rfl rfl (by omega) (by omega) (fun _ q => ?_) (fun hno => absurd (.inr ⟨by omega, by omega⟩) hno)
  refine ent_joinP (A := Unit) (fun _ x => x = (false, ())) (fun _ => isG noS b s m σ d :: arr 5 s8 q (σ.ints (σ.base + 4096 * p) (4096 * 2 ^ k)) :: wBlk w b s m σ d0 fs ls :: blk x1 49 [vI p, vI k, v8 v] :: r) (fun _ x7 hx7 => ?_) (fun k13 h13 => ?_)
  rotate_left
  · refine ent_ne (fun c => absurd rfl c) (fun _ => ?_)
    refine ent_ld (k : Int) ?_
    refine ent_g0 (by rw [wU_nat (by omega)]; omega) ?_
    rw [shl4096I (by omega)]
    refine ent_len (sh := s8) (xs := σ.ints (σ.base + 4096 * p) (4096 * 2 ^ k)) (.there .here) fun hl => ?_
    rw [ints_len] at hl
    refine ent_ne (fun c => absurd (show ((q.len : Nat) : Int) = ((4096 * 2 ^ k : Nat) : Int) by rw [hl]) c) (fun _ => ?_)
    exact h13 () _ rfl
  subst hx7
  refine ent_len (sh := s8) (xs := σ.ints (σ.base + 4096 * p) (4096 * 2 ^ k)) (.there .here) fun hl => ?_
  rw [ints_len] at hl
  refine ent_loop (S := Nat) (fun i => (false, (i : Int), ())) (fun _ => isG noS b s m σ d :: arr 5 s8 q (σ.ints (σ.base + 4096 * p) (4096 * 2 ^ k)) :: wBlk w b s m σ d0 fs ls :: blk x1 49 [vI p, vI k, v8 v] :: r) (fun i => i ≤ 4096 * 2 ^ k) (fun i => 4096 * 2 ^ k - i) 0 rfl (Nat.zero_le _) (fun _ y => y) ?_
  rintro kk i hi hkk
  refine ent_lt (fun c => ?_) (fun c => ?_)
  · have hix : i < 4096 * 2 ^ k := by have c : (i : Int) < (q.len : Int) := c; omega
    refine ent_draw ?_
    refine ent_at (sh := s8) (xs := σ.ints (σ.base + 4096 * p) (4096 * 2 ^ k)) i (v : Int) rfl ?_ ?_ (.there .here)
    · unfold Sp.ints
      rw [List.getElem?_map, List.getElem?_range hix]
      show some ((σ.mem (σ.base + 4096 * p - σ.base + i) : Nat) : Int) = _
      rw [show σ.base + 4096 * p - σ.base + i = 4096 * p + i by omega, hf i hix]
    · refine ent_ld (v : Int) ?_
      refine ent_ne (fun c => absurd rfl c) (fun _ => ?_)
      show ent e _ (kk (false, wI ((i : Int) + 1), ()))
      rw [wI_succ (by omega)]
      exact hkk (i + 1) hix (by omega)
  · exact ent_sub (by repeat (first | exact Sub.refl | refine Sub.cons (by with_reducible first | assumption | exact .here | exact .there .here | exact .there (.there .here) | exact .there (.there (.there .here)) | exact .there (.there (.there (.there .here))) | exact .there (.there (.there (.there (.there .here)))) | exact .there (.there (.there (.there (.there (.there .here))))) | exact .there (.there (.there (.there (.there (.there (.there .here)))))) | exact .there (.there (.there (.there (.there (.there (.there (.there .here))))))) | exact .there (.there (.there (.there (.there (.there (.there (.there (.there .here)))))))) | exact .there (.there (.there (.there (.there (.there (.there (.there (.there (.there .here))))))))) | exact .there (.there (.there (.there (.there (.there (.there (.there (.there (.there (.there .here)))))))))) | exact .there (.there (.there (.there (.there (.there (.there (.there (.there (.there (.there (.there .here))))))))))) | exact .there (.there (.there (.there (.there (.there (.there (.there (.there (.there (.there (.there (.there .here))))))))))))) ?_ | refine Sub.drop ?_)) h

/-- Each block of the book bears its mark. -/
def Marks (σ : Sp) (L : List Bl) : Prop := ∀ v ∈ L, Full σ v.1 v.2.1 v.2.2

theorem Marks.less {σ σ' : Sp} {L L' : List Bl} (h : Marks σ L) (hk : Kept σ σ' L L') (hl : L'.length ≤ L.length) : Marks σ' L' := by
  rcases hk with ⟨v, rfl, _⟩ | ⟨_, hk⟩
  · rw [List.length_append, List.length_singleton] at hl; omega
  · intro v hv
    obtain ⟨u, hu, e1, e2, e3, hs⟩ := hk v hv
    rw [e1, e2]
    rw [e1] at hs
    exact (h u hu).same e3 hs

/-- What is filled is a block of its own. -/
theorem Marks.fill {σ σ' : Sp} {d : D} {L : List Bl} {v : Bl} (B : Booked σ' d (L ++ [v])) (h : Marks σ L) (hs : ∀ u ∈ L, ∀ q, u.1 ≤ q → q < u.1 + 2 ^ u.2.1 → Same σ σ' q) :
    Booked (σ'.over (σ'.ad v.1) (List.replicate (4096 * 2 ^ v.2.1) v.2.2)) d (L ++ [v]) ∧ Marks (σ'.over (σ'.ad v.1) (List.replicate (4096 * 2 ^ v.2.1) v.2.2)) (L ++ [v]) := by
  refine ⟨⟨B.inv, B.sync, B.live, B.marks⟩, fun u hu i hi => ?_⟩
  have hv : v ∈ L ++ [v] := by simp
  show Hl.over σ'.mem (σ'.ad v.1 - σ'.base) (List.replicate (4096 * 2 ^ v.2.1) v.2.2) (4096 * u.1 + i) = _
  rw [show σ'.ad v.1 - σ'.base = 4096 * v.1 by unfold Sp.ad; omega]
  rcases List.mem_append.1 hu with hu' | hu'
  · have hap : ¬ (v.1 ≤ u.1 + i / 4096 ∧ u.1 + i / 4096 < v.1 + 2 ^ v.2.1) := by
      intro hc
      have hd := (live_disj B.inv (B.mem hv) (B.mem hu) hc.1 hc.2 (by omega) (by omega)).1
      have hn : (((L ++ [v]).map pr).map (·.1)).Nodup := by rw [B.live]; exact fst_nodup B.inv
      rw [List.map_append, List.map_append, List.nodup_append] at hn
      exact hn.2.2 u.1 (List.mem_map.2 ⟨pr u, List.mem_map_of_mem hu', rfl⟩) v.1 (by simp [pr]) hd
    rw [over_out (by rw [List.length_replicate]; omega)]
    exact (h u hu').same (Nat.le_refl _) (hs u hu') i hi
  · have : u = v := by simpa using hu'
    subst this
    rw [over_in (by rw [List.length_replicate]; exact hi)]
    exact List.getElem_replicate _

theorem keeps_ct {x y z : Int} {q : Sl} {ds : List sDeed.T} {ret : Value → World → Prop} {pan : List PanicEntry → World → Prop} (hx : 0 ≤ x) (hx2 : x < 18446744073709551616) (R : Reads W sDeed q ds)
    (h : ∀ w, Below W.heap.size W w → ret (.bool true) w) :
    ent (still W) [was W] (funcF (wpM PR) PR Go.Proofs.Try.f4 [.agg #[vU x, vI y, vI z], .slice q.base q.len q.cap] ret pan) := by
  rw [nf4_eq]
  have hlen := R.len
  refine ent_new fun x1 => ?_
  refine ent_ldA (x, y, z, ()) ?_
  refine begin_ct hx hx2 fun b0 n k hc _ w b s m => ?_
  refine ent_joinP (A := Sp × D × D) (fun t x4 => x4 = (false, ()) ∧ Start t) (fun t => [isW w b s m t.1 t.2.1 t.2.2, was W]) (fun t x4 ht => ?_) (fun k23 h23 => ?_)
  rotate_left
  · refine ent_nilP (el := 38) (by kernel_rfl) ?_
    refine ent_false ?_
    refine lives_ct ?_
    refine ent_not (fun c => Bool.noConfusion (show true = false from c)) (fun _ => ?_)
    have B := start_booked hc
    refine come_ct (σ := ⟨b0, n, k, 0, fun _ => 0⟩) (d := D.new k) (d0 := D.new k) (by show 0 < n; have := hc.one; omega) B.sync (by show ([] : List (Nat × Nat)).length ≤ 100000; decide) ?_
    refine ent_not (fun c => Bool.noConfusion (show true = false from c)) (fun _ => ?_)
    refine ent_drS ?_
    refine ent_W (fun fs ls hO hP => ?_)
    refine ent_ld (some ⟨b, 0, none⟩) ?_
    refine ent_sub (l' := isW w b s m (Sp.grown ⟨b0, n, k, 0, fun _ => 0⟩) (D.new k).come (D.new k).come :: was W :: []) (sub_W hO hP (by repeat (first | exact Sub.refl | refine Sub.cons (by with_reducible first | assumption | exact .here | exact .there .here | exact .there (.there .here) | exact .there (.there (.there .here)) | exact .there (.there (.there (.there .here))) | exact .there (.there (.there (.there (.there .here)))) | exact .there (.there (.there (.there (.there (.there .here))))) | exact .there (.there (.there (.there (.there (.there (.there .here)))))) | exact .there (.there (.there (.there (.there (.there (.there (.there .here))))))) | exact .there (.there (.there (.there (.there (.there (.there (.there (.there .here)))))))) | exact .there (.there (.there (.there (.there (.there (.there (.there (.there (.there .here))))))))) | exact .there (.there (.there (.there (.there (.there (.there (.there (.there (.there (.there .here)))))))))) | exact .there (.there (.there (.there (.there (.there (.there (.there (.there (.there (.there (.there .here))))))))))) | exact .there (.there (.there (.there (.there (.there (.there (.there (.there (.there (.there (.there (.there .here))))))))))))) ?_ | refine Sub.drop ?_))) ?_
    refine come1_ct (σ := ⟨b0, n, k, 0, fun _ => 0⟩) (d := D.new k) (d0 := D.new k) B (by show 0 < n; have := hc.one; omega) fun σ' d' fs ls hB e1 e2 e3 e4 e5 => ?_
    refine ent_ne (fun c => absurd rfl c) (fun _ => ?_)
    refine ent_sub ?_ (h23 (σ', d', (D.new k).come) _ ⟨rfl, hB.1, Nat.le_refl _⟩)
    exact sub_W e4 e5 (by repeat (first | exact Sub.refl | refine Sub.cons (by with_reducible first | assumption | exact .here | exact .there .here | exact .there (.there .here) | exact .there (.there (.there .here)) | exact .there (.there (.there (.there .here))) | exact .there (.there (.there (.there (.there .here)))) | exact .there (.there (.there (.there (.there (.there .here))))) | exact .there (.there (.there (.there (.there (.there (.there .here)))))) | exact .there (.there (.there (.there (.there (.there (.there (.there .here))))))) | exact .there (.there (.there (.there (.there (.there (.there (.there (.there .here)))))))) | exact .there (.there (.there (.there (.there (.there (.there (.there (.there (.there .here))))))))) | exact .there (.there (.there (.there (.there (.there (.there (.there (.there (.there (.there .here)))))))))) | exact .there (.there (.there (.there (.there (.there (.there (.there (.there (.there (.there (.there .here))))))))))) | exact .there (.there (.there (.there (.there (.there (.there (.there (.there (.there (.there (.there (.there .here))))))))))))) ?_ | refine Sub.drop ?_))
  obtain ⟨rfl, hB, hl0⟩ := ht
  obtain ⟨σ, d, d0⟩ := t
  simp only at hB hl0 ⊢
  refine ent_new fun x5 => ?_
  refine ent_st ?_
  refine ent_joinP (A := (Sl × List Bl) × Sp × D × D) (fun j x6 => (∃ n : Int, x6 = (false, n, ())) ∧ Booked j.2.1 j.2.2.1 j.1.2 ∧ Marks j.2.1 j.1.2 ∧ j.1.2.length ≤ 60) (fun j => [isW w b s m j.2.1 j.2.2.1 j.2.2.2, isBook j.1.1 j.1.2, blk x5 42 [.slice j.1.1.base j.1.1.len j.1.1.cap], was W]) (fun j x6 hx6 => ?_) (fun k7 h7 => ?_)
  · obtain ⟨⟨n6, rfl⟩, B, M, hL⟩ := hx6
    obtain ⟨⟨q1, L⟩, σ, d, d0⟩ := j
    simp only at B M hL ⊢
    refine ent_loop (S := Nat) (fun i => (false, (i : Int), ())) (fun _ => [isW w b s m σ d d0, isBook q1 L, blk x5 42 [.slice q1.base q1.len q1.cap], was W]) (fun i => i ≤ L.length) (fun i => L.length - i) 0 rfl (Nat.zero_le _) (fun _ y => y) ?_
    rintro kk i hi hkk
    refine ent_len (xs := L.map blkOf) (.there .here) fun hl => ?_
    rw [List.length_map] at hl
    refine ent_ld q1 ?_
    refine ent_lt (fun c => ?_) (fun c => ent_done h)
    have hix : i < L.length := by have c : (i : Int) < (q1.len : Int) := c; omega
    have hv := List.getElem_mem hix
    refine ent_ld q1 ?_
    refine ent_at (sh := sBlk) (xs := L.map blkOf) i (blkOf L[i]) rfl (map_get hix) ?_
    refine ent_W (fun fs ls hO hP => ?_)
    refine ent_G_facts (d := d) (σ := σ) (fun sok ho inv hmem => ?_)
    have hO8 : d.O ≤ 8 := by rw [ho]; exact sok.order
    have hpk0 := Bd.pow_pos L[i].2.1
    have hv2 : L[i].2.1 ≤ d.O := by
      have := inv.cov.le L[i].1 (((inv.live _ _).1 (B.mem hv)).1)
      rw [(B.color hv (Nat.le_refl _) (by omega)).1] at this
      exact this
    have hend : L[i].1 + 2 ^ L[i].2.1 ≤ d.pages := by have := (B.color hv (q := L[i].1 + 2 ^ L[i].2.1 - 1) (by omega) (by omega)).2; omega
    refine marked_ct (σ := σ) (d := d) (d0 := d0) (fs := fs) (ls := ls) L[i].1 L[i].2.1 L[i].2.2 (by omega) hend (M _ hv) ?_
    refine ent_not (fun c => Bool.noConfusion (show true = false from c)) (fun _ => ?_)
    show ent _ _ (kk (false, wI ((i : Int) + 1), ()))
    rw [wI_succ (by omega)]
    exact ent_sub (sub_W (fs := fs) (ls := ls) hO hP (by repeat (first | exact Sub.refl | refine Sub.cons (by with_reducible first | assumption | exact .here | exact .there .here | exact .there (.there .here) | exact .there (.there (.there .here)) | exact .there (.there (.there (.there .here))) | exact .there (.there (.there (.there (.there .here)))) | exact .there (.there (.there (.there (.there (.there .here))))) | exact .there (.there (.there (.there (.there (.there (.there .here)))))) | exact .there (.there (.there (.there (.there (.there (.there (.there .here))))))) | exact .there (.there (.there (.there (.there (.there (.there (.there (.there .here)))))))) | exact .there (.there (.there (.there (.there (.there (.there (.there (.there (.there .here))))))))) | exact .there (.there (.there (.there (.there (.there (.there (.there (.there (.there (.there .here)))))))))) | exact .there (.there (.there (.there (.there (.there (.there (.there (.there (.there (.there (.there .here))))))))))) | exact .there (.there (.there (.there (.there (.there (.there (.there (.there (.there (.there (.there (.there .here))))))))))))) ?_ | refine Sub.drop ?_))) (hkk (i + 1) hix (by omega))
  refine ent_sub (l' := [isW w b s m σ d d0, isBook ⟨none, 0, 0⟩ [], blk x5 42 [.slice none 0 0], was W]) (Sub.cons (by with_reducible first | assumption | exact .here | exact .there .here | exact .there (.there .here) | exact .there (.there (.there .here)) | exact .there (.there (.there (.there .here))) | exact .there (.there (.there (.there (.there .here)))) | exact .there (.there (.there (.there (.there (.there .here))))) | exact .there (.there (.there (.there (.there (.there (.there .here)))))) | exact .there (.there (.there (.there (.there (.there (.there (.there .here))))))) | exact .there (.there (.there (.there (.there (.there (.there (.there (.there .here)))))))) | exact .there (.there (.there (.there (.there (.there (.there (.there (.there (.there .here))))))))) | exact .there (.there (.there (.there (.there (.there (.there (.there (.there (.there (.there .here)))))))))) | exact .there (.there (.there (.there (.there (.there (.there (.there (.there (.there (.there (.there .here))))))))))) | exact .there (.there (.there (.there (.there (.there (.there (.there (.there (.there (.there (.there (.there .here))))))))))))) (Sub.arr_nil (by repeat (first | exact Sub.refl | refine Sub.cons (by with_reducible first | assumption | exact .here | exact .there .here | exact .there (.there .here) | exact .there (.there (.there .here)) | exact .there (.there (.there (.there .here))) | exact .there (.there (.there (.there (.there .here)))) | exact .there (.there (.there (.there (.there (.there .here))))) | exact .there (.there (.there (.there (.there (.there (.there .here)))))) | exact .there (.there (.there (.there (.there (.there (.there (.there .here))))))) | exact .there (.there (.there (.there (.there (.there (.there (.there (.there .here)))))))) | exact .there (.there (.there (.there (.there (.there (.there (.there (.there (.there .here))))))))) | exact .there (.there (.there (.there (.there (.there (.there (.there (.there (.there (.there .here)))))))))) | exact .there (.there (.there (.there (.there (.there (.there (.there (.there (.there (.there (.there .here))))))))))) | exact .there (.there (.there (.there (.there (.there (.there (.there (.there (.there (.there (.there (.there .here))))))))))))) ?_ | refine Sub.drop ?_)))) ?_
  refine ent_loop (S := Nat × (Sl × List Bl) × Sp × D × D) (fun j => (false, (j.1 : Int), ())) (fun j => [isW w b s m j.2.2.1 j.2.2.2.1 j.2.2.2.2, isBook j.2.1.1 j.2.1.2, blk x5 42 [.slice j.2.1.1.base j.2.1.1.len j.2.1.1.cap], was W])
    (fun j => j.1 ≤ 60 ∧ Booked j.2.2.1 j.2.2.2.1 j.2.1.2 ∧ Marks j.2.2.1 j.2.1.2 ∧ j.2.2.2.2.live.length ≤ j.1 + 1 ∧ j.2.1.2.length ≤ j.1) (fun j => 60 - j.1) (0, (⟨none, 0, 0⟩, []), σ, d, d0) rfl ⟨Nat.zero_le _, hB, fun v hv => by simp at hv, hl0, Nat.le_refl _⟩ (fun _ y => y) ?_
  rintro kk ⟨i, ⟨q1, L⟩, σ, d, d0⟩ ⟨hi, hB, hM, hl0, hL⟩ hk
  simp only at hi hB hM hl0 hL hk ⊢
  refine ent_joinP (A := Unit) (fun _ _ => i < ds.length ∧ i < 60) (fun _ => [isW w b s m σ d d0, isBook q1 L, blk x5 42 [.slice q1.base q1.len q1.cap], was W]) (fun _ x10 hx10 => ?_) (fun k22 h22 => ?_)
  rotate_left
  · have out : ent (still W) [isW w b s m σ d d0, isBook q1 L, blk x5 42 [.slice q1.base q1.len q1.cap], was W] (k7 (false, (i : Int), ())) := h7 ((q1, L), σ, d, d0) _ ⟨⟨_, rfl⟩, hB, hM, by simp only; omega⟩
    refine ent_lt (fun c => ?_) (fun _ => out)
    refine ent_lt (fun c2 => ?_) (fun _ => out)
    exact h22 () _ ⟨by have c : (i : Int) < (q.len : Int) := c; omega, by have c2 : (i : Int) < 60 := c2; omega⟩
  obtain ⟨hid, hi3⟩ := hx10
  refine ent_len (xs := L.map blkOf) (.there .here) fun hl1 => ?_
  rw [List.length_map] at hl1
  refine ent_draw ?_
  refine ent_ldA (q1, ()) ?_
  refine ent_atW i ds[i] R rfl (List.getElem?_eq_getElem hid) fun a ha har => ?_
  refine ent_both ?_ (ent_new fun x44 => ?_)
  · refine do_ct (d0 := d0) hB (by omega) (by omega) fun q2 L2 σ2 d2 d02 B2 _ _ _ c4 c5 hK => ?_
    refine ent_new fun x23 => ?_
    refine ent_st ?_
    refine ent_blk [.slice q2.base q2.len q2.cap] ?_
    refine ent_not (fun c => Bool.noConfusion (show true = false from c)) (fun _ => ?_)
    refine ent_sub (l' := [isW w b s m σ2 d2 d02, isBook q2 L2, blk x23 42 [.slice q2.base q2.len q2.cap], blk x5 42 [.slice q1.base q1.len q1.cap], was W]) (by repeat (first | exact Sub.refl | refine Sub.cons (by with_reducible first | assumption | exact .here | exact .there .here | exact .there (.there .here) | exact .there (.there (.there .here)) | exact .there (.there (.there (.there .here))) | exact .there (.there (.there (.there (.there .here)))) | exact .there (.there (.there (.there (.there (.there .here))))) | exact .there (.there (.there (.there (.there (.there (.there .here)))))) | exact .there (.there (.there (.there (.there (.there (.there (.there .here))))))) | exact .there (.there (.there (.there (.there (.there (.there (.there (.there .here)))))))) | exact .there (.there (.there (.there (.there (.there (.there (.there (.there (.there .here))))))))) | exact .there (.there (.there (.there (.there (.there (.there (.there (.there (.there (.there .here)))))))))) | exact .there (.there (.there (.there (.there (.there (.there (.there (.there (.there (.there (.there .here))))))))))) | exact .there (.there (.there (.there (.there (.there (.there (.there (.there (.there (.there (.there (.there .here))))))))))))) ?_ | refine Sub.drop ?_)) ?_
    refine ent_joinP (A := Sp) (fun σ3 x => x = (false, ()) ∧ Booked σ3 d2 L2 ∧ Marks σ3 L2) (fun σ3 => [isW w b s m σ3 d2 d02, isBook q2 L2, blk x23 42 [.slice q2.base q2.len q2.cap], blk x5 42 [.slice q1.base q1.len q1.cap], was W]) (fun σ3 x24 hx24 => ?_) (fun k26 h26 => ?_)
    · obtain ⟨rfl, B3, M3⟩ := hx24
      refine ent_ldA (q2, ()) ?_
      refine ent_st ?_
      refine ent_blk [.slice q2.base q2.len q2.cap] ?_
      show ent _ _ (kk (false, wI ((i : Int) + 1), ()))
      rw [wI_succ (by omega)]
      exact ent_sub (l' := [isW w b s m σ3 d2 d02, isBook q2 L2, blk x5 42 [.slice q2.base q2.len q2.cap], was W]) (by repeat (first | exact Sub.refl | refine Sub.cons (by with_reducible first | assumption | exact .here | exact .there .here | exact .there (.there .here) | exact .there (.there (.there .here)) | exact .there (.there (.there (.there .here))) | exact .there (.there (.there (.there (.there .here)))) | exact .there (.there (.there (.there (.there (.there .here))))) | exact .there (.there (.there (.there (.there (.there (.there .here)))))) | exact .there (.there (.there (.there (.there (.there (.there (.there .here))))))) | exact .there (.there (.there (.there (.there (.there (.there (.there (.there .here)))))))) | exact .there (.there (.there (.there (.there (.there (.there (.there (.there (.there .here))))))))) | exact .there (.there (.there (.there (.there (.there (.there (.there (.there (.there (.there .here)))))))))) | exact .there (.there (.there (.there (.there (.there (.there (.there (.there (.there (.there (.there .here))))))))))) | exact .there (.there (.there (.there (.there (.there (.there (.there (.there (.there (.there (.there (.there .here))))))))))))) ?_ | refine Sub.drop ?_)) (hk (i + 1, (q2, L2), σ3, d2, d02) ⟨by omega, B3, M3, by simp only; omega, by simp only; omega⟩ (by simp only; omega))
    refine ent_len (xs := L2.map blkOf) (.there .here) fun hl2 => ?_
    rw [List.length_map] at hl2
    refine ent_ld q2 ?_
    refine ent_ld q1 ?_
    refine ent_gt (fun c => ?_) (fun c => ?_)
    rotate_left
    · have c : (q2.len : Int) ≤ (q1.len : Int) := c
      exact h26 σ2 _ ⟨rfl, B2, hM.less hK (by omega)⟩
    have c : (q1.len : Int) < (q2.len : Int) := c
    rcases hK with ⟨v, rfl, hs⟩ | ⟨hle, _⟩
    rotate_left
    · omega
    have hv : v ∈ L ++ [v] := by simp
    have hLv : (L ++ [v]).length = L.length + 1 := by simp
    have hget : (L ++ [v])[L.length]? = some v := by simp
    have hcol := fun {q : Nat} h1 h2 => B2.color hv (q := q) h1 h2
    refine ent_ld q2 ?_
    refine ent_ld q2 ?_
    refine ent_at (sh := sBlk) (xs := (L ++ [v]).map blkOf) L.length (blkOf v) (by rw [show ((q2.len : Nat) : Int) - 1 = ((L.length : Nat) : Int) by omega, wI_nat (by omega)]) (by rw [List.getElem?_map, hget]; rfl) ?_
    refine ent_new fun x33 => ?_
    refine ent_st ?_
    refine ent_blk [vI v.1, vI v.2.1, v8 v.2.2] ?_
    refine ent_draw ?_
    refine ent_drS ?_
    refine ent_W (fun fs ls hO hP => ?_)
    refine ent_G_facts (d := d2) (σ := σ2) (fun sok ho inv hmem => ?_)
    have he := sok.end_le
    have h4 := size_pages (σ := σ2)
    have h5 : 4096 * d2.pages ≤ 4096 * (σ2.n * 2 ^ σ2.order) := Nat.mul_le_mul_left _ hmem
    have hO8 : d2.O ≤ 8 := by rw [ho]; exact sok.order
    have hv1 := ((inv.live _ _).1 (B2.mem hv)).1
    have hv2 : v.2.1 ≤ d2.O := by
      have := inv.cov.le v.1 hv1
      rw [(hcol (Nat.le_refl _) (by have := Bd.pow_pos v.2.1; omega)).1] at this
      exact this
    have hpk : 2 ^ v.2.1 ≤ 4096 := Nat.pow_le_pow_right (n := 2) (by omega) (show v.2.1 ≤ 12 by omega)
    have hpk0 : 0 < 2 ^ v.2.1 := Nat.pow_pos (by omega)
    have hend : v.1 + 2 ^ v.2.1 ≤ d2.pages := by have := (hcol (q := v.1 + 2 ^ v.2.1 - 1) (by omega) (by omega)).2; omega
    refine ent_ld (some ⟨s, 0, none⟩) ?_
    refine ent_ld (v.1 : Int) ?_
    refine ent_ld (v.2.1 : Int) ?_
    refine ent_g0 (by rw [wU_nat (by omega)]; omega) ?_
    refine ent_ld (v.2.2 : Int) ?_
    refine at_ct5 (base := σ2.base) v.1 (by have : 4096 * (v.1 + 2 ^ v.2.1) ≤ 4096 * d2.pages := Nat.mul_le_mul_left _ hend
                                            omega) ?_
    refine ent_keepB (ent_keepB (ent_keepB (ent_keep0 ?_)))
    dsimp only
    rw [shl4096U (by omega)]
    obtain ⟨B3, M3⟩ := Marks.fill B2 hM hs
    refine fillG_ct (σ := σ2) (d := d2) v.1 (4096 * 2 ^ v.2.1) v.2.2 rfl rfl rfl (B2.marks v hv) (by omega) hv1 (fun q h1 h2 => by rw [(hcol (q := q) h1 (by omega)).1]; simp) ?_
    refine ent_ne (fun c => absurd rfl c) (fun _ => ?_)
    refine ent_sub ?_ (h26 _ _ ⟨rfl, B3, M3⟩)
    refine sub_W (fs := fs) (ls := ls) hO hP ?_
    show Sub _ (wBlk w b s m σ2 d02 fs ls :: _)
    exact (by repeat (first | exact Sub.refl | refine Sub.cons (by with_reducible first | assumption | exact .here | exact .there .here | exact .there (.there .here) | exact .there (.there (.there .here)) | exact .there (.there (.there (.there .here))) | exact .there (.there (.there (.there (.there .here)))) | exact .there (.there (.there (.there (.there (.there .here))))) | exact .there (.there (.there (.there (.there (.there (.there .here)))))) | exact .there (.there (.there (.there (.there (.there (.there (.there .here))))))) | exact .there (.there (.there (.there (.there (.there (.there (.there (.there .here)))))))) | exact .there (.there (.there (.there (.there (.there (.there (.there (.there (.there .here))))))))) | exact .there (.there (.there (.there (.there (.there (.there (.there (.there (.there (.there .here)))))))))) | exact .there (.there (.there (.there (.there (.there (.there (.there (.there (.there (.there (.there .here))))))))))) | exact .there (.there (.there (.there (.there (.there (.there (.there (.there (.there (.there (.there (.there .here))))))))))))) ?_ | refine Sub.drop ?_))
  · refine ent_keepW har (by rw [ChangeShapes.block_add]; exact ha) ?_
    refine ent_keepB (ent_keep0 ?_)
    refine do_ct (d0 := d0) hB (by omega) (by omega) fun q2 L2 σ2 d2 d02 B2 _ _ _ c4 c5 hK => ?_
    refine ent_st ?_
    refine ent_blk [.slice q2.base q2.len q2.cap] ?_
    refine ent_not (fun c => Bool.noConfusion (show true = false from c)) (fun _ => ?_)
    refine ent_sub (l' := [isW w b s m σ2 d2 d02, isBook q2 L2, blk x44 42 [.slice q2.base q2.len q2.cap], blk x5 42 [.slice q1.base q1.len q1.cap], was W]) (by repeat (first | exact Sub.refl | refine Sub.cons (by with_reducible first | assumption | exact .here | exact .there .here | exact .there (.there .here) | exact .there (.there (.there .here)) | exact .there (.there (.there (.there .here))) | exact .there (.there (.there (.there (.there .here)))) | exact .there (.there (.there (.there (.there (.there .here))))) | exact .there (.there (.there (.there (.there (.there (.there .here)))))) | exact .there (.there (.there (.there (.there (.there (.there (.there .here))))))) | exact .there (.there (.there (.there (.there (.there (.there (.there (.there .here)))))))) | exact .there (.there (.there (.there (.there (.there (.there (.there (.there (.there .here))))))))) | exact .there (.there (.there (.there (.there (.there (.there (.there (.there (.there (.there .here)))))))))) | exact .there (.there (.there (.there (.there (.there (.there (.there (.there (.there (.there (.there .here))))))))))) | exact .there (.there (.there (.there (.there (.there (.there (.there (.there (.there (.there (.there (.there .here))))))))))))) ?_ | refine Sub.drop ?_)) ?_
    refine ent_joinP (A := Sp) (fun σ3 x => x = (false, ()) ∧ Booked σ3 d2 L2 ∧ Marks σ3 L2) (fun σ3 => [isW w b s m σ3 d2 d02, isBook q2 L2, blk x44 42 [.slice q2.base q2.len q2.cap], blk x5 42 [.slice q1.base q1.len q1.cap], was W]) (fun σ3 x24 hx24 => ?_) (fun k26 h26 => ?_)
    · obtain ⟨rfl, B3, M3⟩ := hx24
      refine ent_ldA (q2, ()) ?_
      refine ent_st ?_
      refine ent_blk [.slice q2.base q2.len q2.cap] ?_
      show ent _ _ (kk (false, wI ((i : Int) + 1), ()))
      rw [wI_succ (by omega)]
      exact ent_sub (l' := [isW w b s m σ3 d2 d02, isBook q2 L2, blk x5 42 [.slice q2.base q2.len q2.cap], was W]) (by repeat (first | exact Sub.refl | refine Sub.cons (by with_reducible first | assumption | exact .here | exact .there .here | exact .there (.there .here) | exact .there (.there (.there .here)) | exact .there (.there (.there (.there .here))) | exact .there (.there (.there (.there (.there .here)))) | exact .there (.there (.there (.there (.there (.there .here))))) | exact .there (.there (.there (.there (.there (.there (.there .here)))))) | exact .there (.there (.there (.there (.there (.there (.there (.there .here))))))) | exact .there (.there (.there (.there (.there (.there (.there (.there (.there .here)))))))) | exact .there (.there (.there (.there (.there (.there (.there (.there (.there (.there .here))))))))) | exact .there (.there (.there (.there (.there (.there (.there (.there (.there (.there (.there .here)))))))))) | exact .there (.there (.there (.there (.there (.there (.there (.there (.there (.there (.there (.there .here))))))))))) | exact .there (.there (.there (.there (.there (.there (.there (.there (.there (.there (.there (.there (.there .here))))))))))))) ?_ | refine Sub.drop ?_)) (hk (i + 1, (q2, L2), σ3, d2, d02) ⟨by omega, B3, M3, by simp only; omega, by simp only; omega⟩ (by simp only; omega))
    refine ent_len (xs := L2.map blkOf) (.there .here) fun hl2 => ?_
    rw [List.length_map] at hl2
    refine ent_ld q2 ?_
    refine ent_ld q1 ?_
    refine ent_gt (fun c => ?_) (fun c => ?_)
    rotate_left
    · have c : (q2.len : Int) ≤ (q1.len : Int) := c
      exact h26 σ2 _ ⟨rfl, B2, hM.less hK (by omega)⟩
    have c : (q1.len : Int) < (q2.len : Int) := c
    rcases hK with ⟨v, rfl, hs⟩ | ⟨hle, _⟩
    rotate_left
    · omega
    have hv : v ∈ L ++ [v] := by simp
    have hLv : (L ++ [v]).length = L.length + 1 := by simp
    have hget : (L ++ [v])[L.length]? = some v := by simp
    have hcol := fun {q : Nat} h1 h2 => B2.color hv (q := q) h1 h2
    refine ent_ld q2 ?_
    refine ent_ld q2 ?_
    refine ent_at (sh := sBlk) (xs := (L ++ [v]).map blkOf) L.length (blkOf v) (by rw [show ((q2.len : Nat) : Int) - 1 = ((L.length : Nat) : Int) by omega, wI_nat (by omega)]) (by rw [List.getElem?_map, hget]; rfl) ?_
    refine ent_new fun x33 => ?_
    refine ent_st ?_
    refine ent_blk [vI v.1, vI v.2.1, v8 v.2.2] ?_
    refine ent_draw ?_
    refine ent_drS ?_
    refine ent_W (fun fs ls hO hP => ?_)
    refine ent_G_facts (d := d2) (σ := σ2) (fun sok ho inv hmem => ?_)
    have he := sok.end_le
    have h4 := size_pages (σ := σ2)
    have h5 : 4096 * d2.pages ≤ 4096 * (σ2.n * 2 ^ σ2.order) := Nat.mul_le_mul_left _ hmem
    have hO8 : d2.O ≤ 8 := by rw [ho]; exact sok.order
    have hv1 := ((inv.live _ _).1 (B2.mem hv)).1
    have hv2 : v.2.1 ≤ d2.O := by
      have := inv.cov.le v.1 hv1
      rw [(hcol (Nat.le_refl _) (by have := Bd.pow_pos v.2.1; omega)).1] at this
      exact this
    have hpk : 2 ^ v.2.1 ≤ 4096 := Nat.pow_le_pow_right (n := 2) (by omega) (show v.2.1 ≤ 12 by omega)
    have hpk0 : 0 < 2 ^ v.2.1 := Nat.pow_pos (by omega)
    have hend : v.1 + 2 ^ v.2.1 ≤ d2.pages := by have := (hcol (q := v.1 + 2 ^ v.2.1 - 1) (by omega) (by omega)).2; omega
    refine ent_ld (some ⟨s, 0, none⟩) ?_
    refine ent_ld (v.1 : Int) ?_
    refine ent_ld (v.2.1 : Int) ?_
    refine ent_g0 (by rw [wU_nat (by omega)]; omega) ?_
    refine ent_ld (v.2.2 : Int) ?_
    refine at_ct5 (base := σ2.base) v.1 (by have : 4096 * (v.1 + 2 ^ v.2.1) ≤ 4096 * d2.pages := Nat.mul_le_mul_left _ hend
                                            omega) ?_
    refine ent_keepB (ent_keepB (ent_keepB (ent_keep0 ?_)))
    dsimp only
    rw [shl4096U (by omega)]
    obtain ⟨B3, M3⟩ := Marks.fill B2 hM hs
    refine fillG_ct (σ := σ2) (d := d2) v.1 (4096 * 2 ^ v.2.1) v.2.2 rfl rfl rfl (B2.marks v hv) (by omega) hv1 (fun q h1 h2 => by rw [(hcol (q := q) h1 (by omega)).1]; simp) ?_
    refine ent_ne (fun c => absurd rfl c) (fun _ => ?_)
    refine ent_sub ?_ (h26 _ _ ⟨rfl, B3, M3⟩)
    refine sub_W (fs := fs) (ls := ls) hO hP ?_
    show Sub _ (wBlk w b s m σ2 d02 fs ls :: _)
    exact (by repeat (first | exact Sub.refl | refine Sub.cons (by with_reducible first | assumption | exact .here | exact .there .here | exact .there (.there .here) | exact .there (.there (.there .here)) | exact .there (.there (.there (.there .here))) | exact .there (.there (.there (.there (.there .here)))) | exact .there (.there (.there (.there (.there (.there .here))))) | exact .there (.there (.there (.there (.there (.there (.there .here)))))) | exact .there (.there (.there (.there (.there (.there (.there (.there .here))))))) | exact .there (.there (.there (.there (.there (.there (.there (.there (.there .here)))))))) | exact .there (.there (.there (.there (.there (.there (.there (.there (.there (.there .here))))))))) | exact .there (.there (.there (.there (.there (.there (.there (.there (.there (.there (.there .here)))))))))) | exact .there (.there (.there (.there (.there (.there (.there (.there (.there (.there (.there (.there .here))))))))))) | exact .there (.there (.there (.there (.there (.there (.there (.there (.there (.there (.there (.there (.there .here))))))))))))) ?_ | refine Sub.drop ?_))

end Go.Proofs.Ytdmfnlcbfmahhaa
