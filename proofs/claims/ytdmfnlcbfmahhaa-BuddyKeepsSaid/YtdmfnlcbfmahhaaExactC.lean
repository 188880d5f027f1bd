/- BuddyExactly, whatever the deeds. -/
import Derived.Test.YtdmfnlcbfmahhaaDoC
import Derived.Test.YtdmfnlcbfmahhaaInC
namespace Go.Proofs.Ytdmfnlcbfmahhaa
open Go Hl Bd Go.RowKit
set_option maxRecDepth 100000

abbrev sDeed : Shp := .agg [kI, kI, kI]

variable {W : World} {e : Still} {l l1 r : List HP} {w b s m : Nat}

/-- A world with one region, fed; nothing is taken. -/
def Start (t : Sp × D × D) : Prop := Booked t.1 t.2.1 [] ∧ t.2.2.live.length ≤ 1

theorem start_booked {b0 n k : Nat} (hc : Conf b0 n k) : Booked ⟨b0, n, k, 0, fun _ => 0⟩ (D.new k) [] :=
  ⟨Inv.new k, by show 0 = 0 * 2 ^ k; omega, rfl, fun v hv => by simp at hv⟩

/-- One region comes and is fed. -/
theorem come1_ct {σ : Sp} {d d0 : D} {L : List Bl} {K : Tup [sI] → World → Prop} {KP : List PanicEntry → World → Prop} (B : Booked σ d L) (hn : σ.n < σ.limit)
    (h : ∀ (σ' : Sp) (d' : D) (fs ls : Sl), Booked σ' d' L ∧ Kept σ σ' L L → σ'.base = σ.base → σ'.limit = σ.limit → σ'.order = σ.order → d0.come.O = d'.O → d0.come.pages = d'.pages →
      ent e (wBlk w b s m σ' d0.come fs ls :: isG noS b s m σ' d' :: isFree d0.come.O fs d0.come.free :: isLiveL ls d0.come.live :: r) (K (0, ()))) (k : Take l (isW w b s m σ.grown d.come d0.come) r := by with_reducible first | assumption | exact .here | exact .there .here | exact .there (.there .here) | exact .there (.there (.there .here)) | exact .there (.there (.there (.there .here))) | exact .there (.there (.there (.there (.there .here)))) | exact .there (.there (.there (.there (.there (.there .here))))) | exact .there (.there (.there (.there (.there (.there (.there .here)))))) | exact .there (.there (.there (.there (.there (.there (.there (.there .here))))))) | exact .there (.there (.there (.there (.there (.there (.there (.there (.there .here)))))))) | exact .there (.there (.there (.there (.there (.there (.there (.there (.there (.there .here))))))))) | exact .there (.there (.there (.there (.there (.there (.there (.there (.there (.there (.there .here)))))))))) | exact .there (.there (.there (.there (.there (.there (.there (.there (.there (.there (.there (.there .here))))))))))) | exact .there (.there (.there (.there (.there (.there (.there (.there (.there (.there (.there (.there (.there .here))))))))))))) :
    ent e l ((wpM PR).call 23 [vP b] [sI] K KP) := by
  refine ent_W (fun fs ls hO hP => ?_) k
  refine ent_G_facts (d := d.come) (σ := σ.grown) (fun sok ho inv hmem => ?_)
  have ho : d.O = σ.order := ho
  have htop : d.come.top = d.pages := by show d.pages + 2 ^ d.O - 2 ^ d.O = d.pages; omega
  have hpO0 : 0 < 2 ^ d.O := Nat.pow_pos (by omega)
  have hsync : synced σ.grown d.come := by
    have := B.sync
    unfold synced at *
    show d.pages + 2 ^ d.O = (σ.n + 1) * 2 ^ σ.order
    rw [Nat.succ_mul, this, ho]
  refine feedG_ct (σ := σ.grown) (d := d.come) (fun σ' _ _ _ _ hinv hu => ?_) (fun hno => ?_)
  · rw [htop] at hinv hu ⊢
    obtain ⟨e1, e2, e3⟩ := give_same (d := d.come) (k := d.O) (p := d.pages)
    refine ent_sub ?_ (h σ' _ fs ls (B.come ho hinv hu) hu.base hu.limit hu.order (by rw [hO]; exact e3.symm) (by rw [hP]; exact e2.symm))
    unfold wBlk
    rw [hu.base, hu.limit, hu.order]
    exact (by repeat (first | exact Sub.refl | refine Sub.cons (by with_reducible first | assumption | exact .here | exact .there .here | exact .there (.there .here) | exact .there (.there (.there .here)) | exact .there (.there (.there (.there .here))) | exact .there (.there (.there (.there (.there .here)))) | exact .there (.there (.there (.there (.there (.there .here))))) | exact .there (.there (.there (.there (.there (.there (.there .here)))))) | exact .there (.there (.there (.there (.there (.there (.there (.there .here))))))) | exact .there (.there (.there (.there (.there (.there (.there (.there (.there .here)))))))) | exact .there (.there (.there (.there (.there (.there (.there (.there (.there (.there .here))))))))) | exact .there (.there (.there (.there (.there (.there (.there (.there (.there (.there (.there .here)))))))))) | exact .there (.there (.there (.there (.there (.there (.there (.there (.there (.there (.there (.there .here))))))))))) | exact .there (.there (.there (.there (.there (.there (.there (.there (.there (.there (.there (.there (.there .here))))))))))))) ?_ | refine Sub.drop ?_))
  · refine absurd (hno hsync (by show 0 < d.pages + 2 ^ d.O; omega) ?_) (fun h => h)
    rw [htop]
    show (d.pages, d.O) ∈ d.live ++ [(d.pages, d.O)]
    simp

theorem exactly_ct {x y z : Int} {q : Sl} {ds : List sDeed.T} {ret : Value → World → Prop} {pan : List PanicEntry → World → Prop} (hx : 0 ≤ x) (hx2 : x < 18446744073709551616) (R : Reads W sDeed q ds)
    (h : ∀ w, Below W.heap.size W w → ret (.bool true) w) :
    ent (still W) [was W] (funcF (wpM PR) PR Go.Proofs.Try.f3 [.agg #[vU x, vI y, vI z], .slice q.base q.len q.cap] ret pan) := by
  rw [nf3_eq]
  have hlen := R.len
  refine ent_new fun x1 => ?_
  refine ent_ldA (x, y, z, ()) ?_
  refine begin_ct hx hx2 fun b0 n k hc _ w b s m => ?_
  refine ent_joinP (A := Sp × D × D) (fun t x4 => x4 = (false, ()) ∧ Start t) (fun t => [isW w b s m t.1 t.2.1 t.2.2, was W]) (fun t x4 ht => ?_) (fun k23 h23 => ?_)
  rotate_left
  · refine ent_nilP (el := 38) (by kernel_rfl) ?_
    refine ent_false ?_
    refine lives_ct ?_
    refine ent_not (fun c => Bool.noConfusion (show true = false from c)) (fun _ => ?_)
    have B := start_booked hc
    refine come_ct (σ := ⟨b0, n, k, 0, fun _ => 0⟩) (d := D.new k) (d0 := D.new k) (by show 0 < n; have := hc.one; omega) B.sync (by show ([] : List (Nat × Nat)).length ≤ 100000; decide) ?_
    refine ent_not (fun c => Bool.noConfusion (show true = false from c)) (fun _ => ?_)
    refine ent_drS ?_
    refine ent_W (fun fs ls hO hP => ?_)
    refine ent_ld (some ⟨b, 0, none⟩) ?_
    refine ent_sub (l' := isW w b s m (Sp.grown ⟨b0, n, k, 0, fun _ => 0⟩) (D.new k).come (D.new k).come :: was W :: []) (sub_W hO hP (by repeat (first | exact Sub.refl | refine Sub.cons (by with_reducible first | assumption | exact .here | exact .there .here | exact .there (.there .here) | exact .there (.there (.there .here)) | exact .there (.there (.there (.there .here))) | exact .there (.there (.there (.there (.there .here)))) | exact .there (.there (.there (.there (.there (.there .here))))) | exact .there (.there (.there (.there (.there (.there (.there .here)))))) | exact .there (.there (.there (.there (.there (.there (.there (.there .here))))))) | exact .there (.there (.there (.there (.there (.there (.there (.there (.there .here)))))))) | exact .there (.there (.there (.there (.there (.there (.there (.there (.there (.there .here))))))))) | exact .there (.there (.there (.there (.there (.there (.there (.there (.there (.there (.there .here)))))))))) | exact .there (.there (.there (.there (.there (.there (.there (.there (.there (.there (.there (.there .here))))))))))) | exact .there (.there (.there (.there (.there (.there (.there (.there (.there (.there (.there (.there (.there .here))))))))))))) ?_ | refine Sub.drop ?_))) ?_
    refine come1_ct (σ := ⟨b0, n, k, 0, fun _ => 0⟩) (d := D.new k) (d0 := D.new k) B (by show 0 < n; have := hc.one; omega) fun σ' d' fs ls hB e1 e2 e3 e4 e5 => ?_
    refine ent_ne (fun c => absurd rfl c) (fun _ => ?_)
    refine ent_sub ?_ (h23 (σ', d', (D.new k).come) _ ⟨rfl, hB.1, Nat.le_refl _⟩)
    exact sub_W e4 e5 (by repeat (first | exact Sub.refl | refine Sub.cons (by with_reducible first | assumption | exact .here | exact .there .here | exact .there (.there .here) | exact .there (.there (.there .here)) | exact .there (.there (.there (.there .here))) | exact .there (.there (.there (.there (.there .here)))) | exact .there (.there (.there (.there (.there (.there .here))))) | exact .there (.there (.there (.there (.there (.there (.there .here)))))) | exact .there (.there (.there (.there (.there (.there (.there (.there .here))))))) | exact .there (.there (.there (.there (.there (.there (.there (.there (.there .here)))))))) | exact .there (.there (.there (.there (.there (.there (.there (.there (.there (.there .here))))))))) | exact .there (.there (.there (.there (.there (.there (.there (.there (.there (.there (.there .here)))))))))) | exact .there (.there (.there (.there (.there (.there (.there (.there (.there (.there (.there (.there .here))))))))))) | exact .there (.there (.there (.there (.there (.there (.there (.there (.there (.there (.there (.there (.there .here))))))))))))) ?_ | refine Sub.drop ?_))
  obtain ⟨rfl, hB, hl0⟩ := ht
  obtain ⟨σ, d, d0⟩ := t
  simp only at hB hl0 ⊢
  refine ent_new fun x5 => ?_
  refine ent_st ?_
  refine ent_joinP (A := Unit) (fun _ _ => True) (fun _ => [was W]) (fun _ x6 _ => ent_done h) (fun k7 h7 => ?_)
  refine ent_sub (l' := [isW w b s m σ d d0, isBook ⟨none, 0, 0⟩ [], blk x5 42 [.slice none 0 0], was W]) (Sub.cons (by with_reducible first | assumption | exact .here | exact .there .here | exact .there (.there .here) | exact .there (.there (.there .here)) | exact .there (.there (.there (.there .here))) | exact .there (.there (.there (.there (.there .here)))) | exact .there (.there (.there (.there (.there (.there .here))))) | exact .there (.there (.there (.there (.there (.there (.there .here)))))) | exact .there (.there (.there (.there (.there (.there (.there (.there .here))))))) | exact .there (.there (.there (.there (.there (.there (.there (.there (.there .here)))))))) | exact .there (.there (.there (.there (.there (.there (.there (.there (.there (.there .here))))))))) | exact .there (.there (.there (.there (.there (.there (.there (.there (.there (.there (.there .here)))))))))) | exact .there (.there (.there (.there (.there (.there (.there (.there (.there (.there (.there (.there .here))))))))))) | exact .there (.there (.there (.there (.there (.there (.there (.there (.there (.there (.there (.there (.there .here))))))))))))) (Sub.arr_nil (by repeat (first | exact Sub.refl | refine Sub.cons (by with_reducible first | assumption | exact .here | exact .there .here | exact .there (.there .here) | exact .there (.there (.there .here)) | exact .there (.there (.there (.there .here))) | exact .there (.there (.there (.there (.there .here)))) | exact .there (.there (.there (.there (.there (.there .here))))) | exact .there (.there (.there (.there (.there (.there (.there .here)))))) | exact .there (.there (.there (.there (.there (.there (.there (.there .here))))))) | exact .there (.there (.there (.there (.there (.there (.there (.there (.there .here)))))))) | exact .there (.there (.there (.there (.there (.there (.there (.there (.there (.there .here))))))))) | exact .there (.there (.there (.there (.there (.there (.there (.there (.there (.there (.there .here)))))))))) | exact .there (.there (.there (.there (.there (.there (.there (.there (.there (.there (.there (.there .here))))))))))) | exact .there (.there (.there (.there (.there (.there (.there (.there (.there (.there (.there (.there (.there .here))))))))))))) ?_ | refine Sub.drop ?_)))) ?_
  refine ent_loop (S := Nat × (Sl × List Bl) × Sp × D × D) (fun j => (false, (j.1 : Int), ())) (fun j => [isW w b s m j.2.2.1 j.2.2.2.1 j.2.2.2.2, isBook j.2.1.1 j.2.1.2, blk x5 42 [.slice j.2.1.1.base j.2.1.1.len j.2.1.1.cap], was W])
    (fun j => j.1 ≤ 300 ∧ Booked j.2.2.1 j.2.2.2.1 j.2.1.2 ∧ j.2.2.2.2.live.length ≤ j.1 + 1 ∧ j.2.1.2.length ≤ j.1) (fun j => 300 - j.1) (0, (⟨none, 0, 0⟩, []), σ, d, d0) rfl ⟨Nat.zero_le _, hB, hl0, Nat.le_refl _⟩ (fun _ y => y) ?_
  rintro kk ⟨i, ⟨q1, L⟩, σ, d, d0⟩ ⟨hi, hB, hl0, hL⟩ hk
  simp only at hi hB hl0 hL hk ⊢
  refine ent_joinP (A := Unit) (fun _ _ => i < ds.length ∧ i < 300) (fun _ => [isW w b s m σ d d0, isBook q1 L, blk x5 42 [.slice q1.base q1.len q1.cap], was W]) (fun _ x10 hx10 => ?_) (fun k22 h22 => ?_)
  rotate_left
  · have out : ent (still W) [isW w b s m σ d d0, isBook q1 L, blk x5 42 [.slice q1.base q1.len q1.cap], was W] (k7 (false, (i : Int), ())) := ent_sub (by repeat (first | exact Sub.refl | refine Sub.cons (by with_reducible first | assumption | exact .here | exact .there .here | exact .there (.there .here) | exact .there (.there (.there .here)) | exact .there (.there (.there (.there .here))) | exact .there (.there (.there (.there (.there .here)))) | exact .there (.there (.there (.there (.there (.there .here))))) | exact .there (.there (.there (.there (.there (.there (.there .here)))))) | exact .there (.there (.there (.there (.there (.there (.there (.there .here))))))) | exact .there (.there (.there (.there (.there (.there (.there (.there (.there .here)))))))) | exact .there (.there (.there (.there (.there (.there (.there (.there (.there (.there .here))))))))) | exact .there (.there (.there (.there (.there (.there (.there (.there (.there (.there (.there .here)))))))))) | exact .there (.there (.there (.there (.there (.there (.there (.there (.there (.there (.there (.there .here))))))))))) | exact .there (.there (.there (.there (.there (.there (.there (.there (.there (.there (.there (.there (.there .here))))))))))))) ?_ | refine Sub.drop ?_)) (h7 () _ trivial)
    refine ent_lt (fun c => ?_) (fun _ => out)
    refine ent_lt (fun c2 => ?_) (fun _ => out)
    exact h22 () _ ⟨by have c : (i : Int) < (q.len : Int) := c; omega, by have c2 : (i : Int) < 300 := c2; omega⟩
  obtain ⟨hid, hi3⟩ := hx10
  refine ent_draw ?_
  refine ent_ldA (q1, ()) ?_
  refine ent_atW i ds[i] R rfl (List.getElem?_eq_getElem hid) fun a ha har => ?_
  refine ent_both ?_ (ent_new fun x18 => ?_)
  · refine do_ct (d0 := d0) hB (by omega) (by omega) fun q2 L2 σ2 d2 d02 B2 _ _ _ c4 c5 _ => ?_
    refine ent_new fun x15 => ?_
    refine ent_st ?_
    refine ent_not (fun c => Bool.noConfusion (show true = false from c)) (fun _ => ?_)
    refine ent_ldA (q2, ()) ?_
    refine ent_st ?_
    rw [wI_succ (by omega)]
    refine ent_blk [.slice q2.base q2.len q2.cap] ?_
    exact ent_sub (l' := [isW w b s m σ2 d2 d02, isBook q2 L2, blk x5 42 [.slice q2.base q2.len q2.cap], was W]) (by repeat (first | exact Sub.refl | refine Sub.cons (by with_reducible first | assumption | exact .here | exact .there .here | exact .there (.there .here) | exact .there (.there (.there .here)) | exact .there (.there (.there (.there .here))) | exact .there (.there (.there (.there (.there .here)))) | exact .there (.there (.there (.there (.there (.there .here))))) | exact .there (.there (.there (.there (.there (.there (.there .here)))))) | exact .there (.there (.there (.there (.there (.there (.there (.there .here))))))) | exact .there (.there (.there (.there (.there (.there (.there (.there (.there .here)))))))) | exact .there (.there (.there (.there (.there (.there (.there (.there (.there (.there .here))))))))) | exact .there (.there (.there (.there (.there (.there (.there (.there (.there (.there (.there .here)))))))))) | exact .there (.there (.there (.there (.there (.there (.there (.there (.there (.there (.there (.there .here))))))))))) | exact .there (.there (.there (.there (.there (.there (.there (.there (.there (.there (.there (.there (.there .here))))))))))))) ?_ | refine Sub.drop ?_)) (hk (i + 1, (q2, L2), σ2, d2, d02) ⟨by omega, B2, by simp only; omega, by simp only; omega⟩ (by simp only; omega))
  · refine ent_keepW har (by rw [ChangeShapes.block_add]; exact ha) ?_
    refine ent_keepB (ent_keep0 ?_)
    refine do_ct (d0 := d0) hB (by omega) (by omega) (fun q2 L2 σ2 d2 d02 B2 _ _ _ c4 c5 _ => ?_)
    refine ent_st ?_
    refine ent_not (fun c => Bool.noConfusion (show true = false from c)) (fun _ => ?_)
    refine ent_ldA (q2, ()) ?_
    refine ent_st ?_
    rw [wI_succ (by omega)]
    refine ent_blk [.slice q2.base q2.len q2.cap] ?_
    exact ent_sub (l' := [isW w b s m σ2 d2 d02, isBook q2 L2, blk x5 42 [.slice q2.base q2.len q2.cap], was W]) (by repeat (first | exact Sub.refl | refine Sub.cons (by with_reducible first | assumption | exact .here | exact .there .here | exact .there (.there .here) | exact .there (.there (.there .here)) | exact .there (.there (.there (.there .here))) | exact .there (.there (.there (.there (.there .here)))) | exact .there (.there (.there (.there (.there (.there .here))))) | exact .there (.there (.there (.there (.there (.there (.there .here)))))) | exact .there (.there (.there (.there (.there (.there (.there (.there .here))))))) | exact .there (.there (.there (.there (.there (.there (.there (.there (.there .here)))))))) | exact .there (.there (.there (.there (.there (.there (.there (.there (.there (.there .here))))))))) | exact .there (.there (.there (.there (.there (.there (.there (.there (.there (.there (.there .here)))))))))) | exact .there (.there (.there (.there (.there (.there (.there (.there (.there (.there (.there (.there .here))))))))))) | exact .there (.there (.there (.there (.there (.there (.there (.there (.there (.there (.there (.there (.there .here))))))))))))) ?_ | refine Sub.drop ?_)) (hk (i + 1, (q2, L2), σ2, d2, d02) ⟨by omega, B2, by simp only; omega, by simp only; omega⟩ (by simp only; omega))

end Go.Proofs.Ytdmfnlcbfmahhaa
