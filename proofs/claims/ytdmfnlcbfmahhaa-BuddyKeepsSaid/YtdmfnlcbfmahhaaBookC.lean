/- The statements' own book of live blocks. -/
import Derived.Test.YtdmfnlcbfmahhaaWorldC
namespace Go.Proofs.Ytdmfnlcbfmahhaa
open Go Hl Bd
set_option maxRecDepth 100000

variable {e : Still} {l r : List HP} {X : World → Prop}

abbrev k8 : Kind := .int .u8
abbrev sBlk : Shp := .agg [kI, kI, k8]
abbrev sBook : Shp := .agg [.slice]
abbrev Bl := Nat × Nat × Nat
abbrev blkOf (v : Bl) : sBlk.T := ((v.1 : Int), (v.2.1 : Int), (v.2.2 : Int), ())

def isBook (q : Sl) (L : List Bl) : HP := arr 49 sBlk q (L.map blkOf)

def meet1 (p k : Nat) (v : Bl) : Prop := v.1 < p + 2 ^ k ∧ p < v.1 + 2 ^ v.2.1
def hits (L : List Bl) (p k : Nat) : Prop := ∃ v ∈ L, meet1 p k v

structure BookOk (L : List Bl) : Prop where
  page : ∀ v ∈ L, v.1 ≤ 100000
  order : ∀ v ∈ L, v.2.1 ≤ 8
  len : L.length ≤ 100000

theorem blk_elem : Elem PR 40 49 sBlk (0, 0, 0, ()) 24 := .of (by kernel_rfl) (by kernel_rfl)

theorem map_get {A B : Type} {f : A → B} {xs : List A} {i : Nat} (h : i < xs.length) : (xs.map f)[i]? = some (f xs[i]) := by rw [List.getElem?_map, List.getElem?_eq_getElem h]; rfl

theorem meets_ct {q : Sl} {L : List Bl} {K : Tup [sB] → World → Prop} {KP : List PanicEntry → World → Prop} (p k : Nat) (hk : k ≤ 8) (hp : p ≤ 100000) (ok : BookOk L)
    (h : ∀ t : Bool, (t = true ↔ hits L p k) → ent e l (K (t, ()))) (kq : Take l (isBook q L) r := by with_reducible first | assumption | exact .here | exact .there .here | exact .there (.there .here) | exact .there (.there (.there .here)) | exact .there (.there (.there (.there .here))) | exact .there (.there (.there (.there (.there .here)))) | exact .there (.there (.there (.there (.there (.there .here))))) | exact .there (.there (.there (.there (.there (.there (.there .here)))))) | exact .there (.there (.there (.there (.there (.there (.there (.there .here))))))) | exact .there (.there (.there (.there (.there (.there (.there (.there (.there .here)))))))) | exact .there (.there (.there (.there (.there (.there (.there (.there (.there (.there .here))))))))) | exact .there (.there (.there (.there (.there (.there (.there (.there (.there (.there (.there .here)))))))))) | exact .there (.there (.there (.there (.there (.there (.there (.there (.there (.there (.there (.there .here))))))))))) | exact .there (.there (.there (.there (.there (.there (.there (.there (.there (.there (.there (.there (.there .here))))))))))))) :
    ent e l ((wpM PR).call 83 [.agg #[.slice q.base q.len q.cap], vI (p : Int), vI (k : Int)] [sB] K KP) := by
  refine ent_call (fn := Go.Proofs.Try.f83) (by kernel_rfl) ?_
  rw [nf83_eq]
  have hpk : 2 ^ k ≤ 4096 := Nat.pow_le_pow_right (n := 2) (by omega) (show k ≤ 12 by omega)
  have hlen := ok.len
  refine ent_new fun x1 => ?_
  have kb : Take (blk x1 42 [.slice q.base q.len q.cap] :: l) (isBook q L) (blk x1 42 [.slice q.base q.len q.cap] :: r) := .there kq
  refine ent_len (xs := L.map blkOf) kb fun hl => ?_
  rw [List.length_map] at hl
  refine ent_loop (S := Nat) (fun i => (false, (i : Int), ())) (fun _ => blk x1 42 [.slice q.base q.len q.cap] :: l) (fun i => i ≤ L.length ∧ ∀ v ∈ L.take i, ¬ meet1 p k v) (fun i => L.length - i) 0 rfl ⟨Nat.zero_le _, fun v hv => by simp at hv⟩ (fun _ y => y) ?_
  rintro kk i ⟨hi, hno⟩ hkk
  refine ent_ld q ?_
  refine ent_lt (fun c => ?_) (fun c => ?_)
  · have hix : i < L.length := by have c : (i : Int) < (q.len : Int) := c; omega
    have hpage := ok.page L[i] (List.getElem_mem hix)
    have horder := ok.order L[i] (List.getElem_mem hix)
    have hpo : 2 ^ L[i].2.1 ≤ 4096 := Nat.pow_le_pow_right (n := 2) (by omega) (show L[i].2.1 ≤ 12 by omega)
    refine ent_joinP (A := Unit) (fun _ x => x = (false, ()) ∧ ¬ meet1 p k L[i]) (fun _ => blk x1 42 [.slice q.base q.len q.cap] :: l) (fun _ x hx => ?_) (fun k6 hk6 => ?_)
    · obtain ⟨rfl, hm⟩ := hx
      rw [wI_succ (by omega)]
      refine hkk (i + 1) ⟨hix, fun v hv => ?_⟩ (by omega)
      rw [List.take_add_one, List.getElem?_eq_getElem hix, List.mem_append] at hv
      rcases hv with hv | hv
      · exact hno v hv
      · have : v = L[i] := by simpa using hv
        rw [this]; exact hm
    · refine ent_draw ?_
      refine ent_ld q ?_
      refine ent_fld (ks := [kI, kI, k8]) (xs := L.map blkOf) i 0 (blkOf L[i]) ((L[i].1 : Nat) : Int) rfl (map_get hix) ?_ kb
      refine ent_g0 (by rw [wU_nat (by omega)]; omega) ?_
      rw [shl_eq (by omega), wI_add (by omega)]
      refine ent_lt (fun c1 => ?_) (fun c1 => ?_)
      · have c1 : ((L[i].1 : Nat) : Int) < ((p + 2 ^ k : Nat) : Int) := c1
        refine ent_ld q ?_
        refine ent_fld (ks := [kI, kI, k8]) (xs := L.map blkOf) i 0 (blkOf L[i]) ((L[i].1 : Nat) : Int) rfl (map_get hix) ?_ kb
        refine ent_ld q ?_
        refine ent_fld (ks := [kI, kI, k8]) (xs := L.map blkOf) i 1 (blkOf L[i]) ((L[i].2.1 : Nat) : Int) rfl (map_get hix) ?_ kb
        refine ent_g0 (a := wU ((L[i].2.1 : Nat) : Int)) (by rw [wU_nat (by omega)]; omega) ?_
        have e1 : wI (((L[i].1 : Nat) : Int) + wI (1 * 2 ^ min (wU ((L[i].2.1 : Nat) : Int)).toNat 64)) = ((L[i].1 + 2 ^ L[i].2.1 : Nat) : Int) := by rw [shl_eq (by omega), wI_add (by omega)]
        refine ent_lt (a := (p : Int)) (b := wI (((L[i].1 : Nat) : Int) + wI (1 * 2 ^ min (wU ((L[i].2.1 : Nat) : Int)).toNat 64))) (fun c2 => ?_) (fun c2 => ?_)
        · rw [e1] at c2
          exact ent_drop (h true ⟨fun _ => ⟨L[i], List.getElem_mem hix, by unfold meet1; omega⟩, fun _ => rfl⟩)
        · rw [e1] at c2
          exact hk6 () _ ⟨rfl, by unfold meet1; omega⟩
      · have c1 : ((p + 2 ^ k : Nat) : Int) ≤ ((L[i].1 : Nat) : Int) := c1
        exact hk6 () _ ⟨rfl, by unfold meet1; omega⟩
  · have hix : i = L.length := by have c : (q.len : Int) ≤ (i : Int) := c; omega
    subst hix
    rw [List.take_length] at hno
    exact ent_drop (h false ⟨fun c => Bool.noConfusion c, fun ⟨v, hv, hm⟩ => absurd hm (hno v hv)⟩)

theorem stuck_ct {q : Sl} {L : List Bl} {K : Tup [sB] → World → Prop} {KP : List PanicEntry → World → Prop} (n k : Nat) (hk : k ≤ 8) (hn : n ≤ 10000) (ok : BookOk L)
    (h : ∀ t : Bool, (t = true ↔ ∀ p, p < n → p % 2 ^ k = 0 → hits L p k) → ent e l (K (t, ()))) (kq : Take l (isBook q L) r := by with_reducible first | assumption | exact .here | exact .there .here | exact .there (.there .here) | exact .there (.there (.there .here)) | exact .there (.there (.there (.there .here))) | exact .there (.there (.there (.there (.there .here)))) | exact .there (.there (.there (.there (.there (.there .here))))) | exact .there (.there (.there (.there (.there (.there (.there .here)))))) | exact .there (.there (.there (.there (.there (.there (.there (.there .here))))))) | exact .there (.there (.there (.there (.there (.there (.there (.there (.there .here)))))))) | exact .there (.there (.there (.there (.there (.there (.there (.there (.there (.there .here))))))))) | exact .there (.there (.there (.there (.there (.there (.there (.there (.there (.there (.there .here)))))))))) | exact .there (.there (.there (.there (.there (.there (.there (.there (.there (.there (.there (.there .here))))))))))) | exact .there (.there (.there (.there (.there (.there (.there (.there (.there (.there (.there (.there (.there .here))))))))))))) :
    ent e l ((wpM PR).call 81 [.agg #[.slice q.base q.len q.cap], vI (n : Int), vI (k : Int)] [sB] K KP) := by
  refine ent_call (fn := Go.Proofs.Try.f81) (by kernel_rfl) ?_
  rw [nf81_eq]
  have hpk : 2 ^ k ≤ 4096 := Nat.pow_le_pow_right (n := 2) (by omega) (show k ≤ 12 by omega)
  have hp0 : 0 < 2 ^ k := Nat.pow_pos (by omega)
  refine ent_new fun x1 => ?_
  have kb : Take (blk x1 42 [.slice q.base q.len q.cap] :: l) (isBook q L) (blk x1 42 [.slice q.base q.len q.cap] :: r) := .there kq
  refine ent_loop (S := Nat) (fun i => (false, (i : Int), ())) (fun _ => blk x1 42 [.slice q.base q.len q.cap] :: l) (fun i => i ≤ n + 4096 ∧ i % 2 ^ k = 0 ∧ ∀ p, p < i → p % 2 ^ k = 0 → hits L p k) (fun i => n - i) 0 rfl ⟨by omega, Nat.zero_mod _, fun p hp => absurd hp (Nat.not_lt_zero _)⟩ (fun _ y => y) ?_
  rintro kk i ⟨hi, hmod, hall⟩ hkk
  refine ent_lt (fun c => ?_) (fun c => ?_)
  · have c : i < n := by have c : (i : Int) < (n : Int) := c; omega
    refine ent_ldA (q, ()) ?_
    refine meets_ct i k hk (by omega) ok (fun t ht => ?_) kb
    refine ent_not (fun c2 => ?_) (fun c2 => ?_)
    · have c2 : t = false := c2
      subst c2
      exact ent_drop (h false ⟨fun c => Bool.noConfusion c, fun hh => absurd (ht.2 (hh i c hmod)) (by decide)⟩)
    · have c2 : t = true := c2
      subst c2
      refine ent_g0 (by rw [wU_nat (by omega)]; omega) ?_
      rw [shl_eq (by omega)]
      show ent e _ (kk (false, wI ((i : Int) + ((2 ^ k : Nat) : Int)), ()))
      rw [wI_add (by omega)]
      refine hkk (i + 2 ^ k) ⟨by omega, by rw [Nat.add_mod_right]; exact hmod, fun p hp hpm => ?_⟩ (by omega)
      by_cases hlt : p < i
      · exact hall p hlt hpm
      · have : p = i := Bd.start_eq ((in_block hmod).2 ⟨by omega, hp⟩) hmod hpm
        rw [this]; exact ht.1 rfl
  · have c : n ≤ i := by have c : (n : Int) ≤ (i : Int) := c; omega
    exact ent_drop (h true ⟨fun _ p hp => hall p (by omega), fun _ => rfl⟩)

theorem erase_step {A : Type} {L : List A} {i j : Nat} (hj : j < L.length) : (L.take (j + 1)).eraseIdx i = (L.take j).eraseIdx i ++ (if j = i then [] else [L[j]]) := by
  have hlen : (L.take j).length = j := by rw [List.length_take]; omega
  rw [List.take_add_one, List.getElem?_eq_getElem hj]
  show (L.take j ++ [L[j]]).eraseIdx i = _
  by_cases h : i < j
  · rw [List.eraseIdx_append_of_lt_length (by omega), if_neg (by omega)]
  · rw [List.eraseIdx_append_of_length_le (by omega), List.eraseIdx_of_length_le (l := L.take j) (by omega), hlen]
    by_cases h2 : j = i
    · rw [if_pos h2, show i - j = 0 by omega]; rfl
    · rw [if_neg h2, show i - j = (i - j - 1) + 1 by omega]; rfl

theorem without_ct {q : Sl} {L : List Bl} {K : Tup [sBook] → World → Prop} {KP : List PanicEntry → World → Prop} (i : Nat) (hi : i ≤ 100000) (hlen : L.length ≤ 100000)
    (h : ∀ q' : Sl, ent e (isBook q' (L.eraseIdx i) :: l) (K ((q', ()), ()))) (kq : Take l (isBook q L) r := by with_reducible first | assumption | exact .here | exact .there .here | exact .there (.there .here) | exact .there (.there (.there .here)) | exact .there (.there (.there (.there .here))) | exact .there (.there (.there (.there (.there .here)))) | exact .there (.there (.there (.there (.there (.there .here))))) | exact .there (.there (.there (.there (.there (.there (.there .here)))))) | exact .there (.there (.there (.there (.there (.there (.there (.there .here))))))) | exact .there (.there (.there (.there (.there (.there (.there (.there (.there .here)))))))) | exact .there (.there (.there (.there (.there (.there (.there (.there (.there (.there .here))))))))) | exact .there (.there (.there (.there (.there (.there (.there (.there (.there (.there (.there .here)))))))))) | exact .there (.there (.there (.there (.there (.there (.there (.there (.there (.there (.there (.there .here))))))))))) | exact .there (.there (.there (.there (.there (.there (.there (.there (.there (.there (.there (.there (.there .here))))))))))))) :
    ent e l ((wpM PR).call 52 [.agg #[.slice q.base q.len q.cap], vI (i : Int)] [sBook] K KP) := by
  refine ent_call (fn := Go.Proofs.Try.f52) (by kernel_rfl) ?_
  rw [nf52_eq]
  refine ent_new fun x1 => ?_
  refine ent_new fun x2 => ?_
  refine ent_len (xs := L.map blkOf) (.there (.there kq)) fun hl => ?_
  rw [List.length_map] at hl
  refine ent_loop (S := Nat × Sl) (fun j => (⟨j.2.base, j.2.len, j.2.cap⟩, (j.1 : Int), ())) (fun j => arr 49 sBlk j.2 (((L.take j.1).eraseIdx i).map blkOf) :: blk x2 42 [.slice none 0 0] :: blk x1 42 [.slice q.base q.len q.cap] :: l)
    (fun j => j.1 ≤ L.length) (fun j => L.length - j.1) (0, ⟨none, 0, 0⟩) rfl (Nat.zero_le _) (fun _ y => emp_star_arr (by exact y)) ?_
  rintro kk ⟨j, qq⟩ hj hk
  simp only at hj hk ⊢
  refine ent_ld q ?_
  refine ent_lt (fun c => ?_) (fun c => ?_)
  · have hjl : j < L.length := by have c : (j : Int) < (q.len : Int) := c; omega
    have hlen2 : ((L.take j).eraseIdx i).length ≤ 100000 := by
      have := List.length_eraseIdx_le (l := L.take j) (i := i)
      rw [List.length_take] at this; omega
    refine ent_joinP (A := Sl) (fun q' x => x = (q', ())) (fun q' => arr 49 sBlk q' (((L.take (j + 1)).eraseIdx i).map blkOf) :: blk x2 42 [.slice none 0 0] :: blk x1 42 [.slice q.base q.len q.cap] :: l) (fun q' x hx => ?_) (fun k7 hk7 => ?_)
    · subst hx
      rw [wI_succ (by omega)]
      exact hk (j + 1, q') (by simp only; omega) (by simp only; omega)
    · rw [erase_step hjl] at hk7
      refine ent_ne (fun c7 => ?_) (fun c7 => ?_)
      · have c7 : ((j : Nat) : Int) ≠ (i : Int) := c7
        rw [if_neg (by omega)] at hk7
        refine ent_ld q ?_
        refine ent_at (sh := sBlk) (xs := L.map blkOf) j (blkOf L[j]) rfl (map_get hjl) ?_ (.there (.there (.there kq)))
        refine ent_new fun x9 => ?_
        refine ent_append1 (xs := ((L.take j).eraseIdx i).map blkOf) blk_elem rfl (by decide) (blkOf L[j]) (.there .here) .here rfl (by rw [List.length_map]; omega) (by rw [List.length_map]; omega) fun s8 hs8 => ?_
        refine ent_sub ?_ (hk7 s8 _ rfl)
        rw [List.map_append]
        exact .refl
      · have c7 : ((j : Nat) : Int) = (i : Int) := c7
        rw [if_pos (by omega), List.append_nil] at hk7
        exact hk7 qq _ rfl
  · obtain rfl : j = L.length := by have c : (q.len : Int) ≤ (j : Int) := c; omega
    rw [List.take_length]
    refine ent_st ?_
    refine ent_ldA (qq, ()) ?_
    exact ent_sub (by repeat (first | exact Sub.refl | refine Sub.cons (by with_reducible first | assumption | exact .here | exact .there .here | exact .there (.there .here) | exact .there (.there (.there .here)) | exact .there (.there (.there (.there .here))) | exact .there (.there (.there (.there (.there .here)))) | exact .there (.there (.there (.there (.there (.there .here))))) | exact .there (.there (.there (.there (.there (.there (.there .here)))))) | exact .there (.there (.there (.there (.there (.there (.there (.there .here))))))) | exact .there (.there (.there (.there (.there (.there (.there (.there (.there .here)))))))) | exact .there (.there (.there (.there (.there (.there (.there (.there (.there (.there .here))))))))) | exact .there (.there (.there (.there (.there (.there (.there (.there (.there (.there (.there .here)))))))))) | exact .there (.there (.there (.there (.there (.there (.there (.there (.there (.there (.there (.there .here))))))))))) | exact .there (.there (.there (.there (.there (.there (.there (.there (.there (.there (.there (.there (.there .here))))))))))))) ?_ | refine Sub.drop ?_)) (h qq)

end Go.Proofs.Ytdmfnlcbfmahhaa
