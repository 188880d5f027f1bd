/- Sets of bits: made of words, of another length, told as words. -/
import Derived.Test.YtdmfnlcbfmahhaaBitsC
import Derived.Test.YtdmfnlcbfmahhaaMemD
namespace Go.Proofs.Ytdmfnlcbfmahhaa
open Go Hl
set_option maxRecDepth 100000

variable {e : Still} {l r : List HP}

theorem u64_elem : Elem PR 59 22 sU 0 8 := .of (by kernel_rfl) (by kernel_rfl)

theorem bitsN_self {w : Nat} (h : w < 2 ^ 64) : bitsN (fun j => w.testBit j) 64 = w := by
  apply Nat.eq_of_testBit_eq
  intro j
  rw [bitsN_bit]
  by_cases hj : j < 64
  · simp [hj]
  · rw [Nat.testBit_lt_two_pow (Nat.lt_of_lt_of_le h (Nat.pow_le_pow_right (by omega) (by omega)))]; simp

theorem bitsN_congr {f g : Nat → Bool} {k : Nat} (h : ∀ j, j < k → f j = g j) : bitsN f k = bitsN g k := by
  induction k with
  | zero => rfl
  | succ k ih => simp only [bitsN]; rw [ih fun j hj => h j (by omega), h k (by omega)]

theorem wordsOf_congr {n : Nat} {f g : Nat → Bool} (h : ∀ i, i < n → f i = g i) : wordsOf n f = wordsOf n g := by
  unfold wordsOf
  refine List.map_congr_left fun i _ => bitsN_congr fun j _ => ?_
  by_cases hj : 64 * i + j < n
  · rw [h _ hj]
  · simp [hj]

theorem isSet_congr {b n : Nat} {f g : Nat → Bool} (h : ∀ i, i < n → f i = g i) : isSet b n f = isSet b n g := by
  unfold isSet; rw [wordsOf_congr h]

theorem wordsOf_bit {n i : Nat} {f : Nat → Bool} : ((wordsOf n f).getD (i / 64) 0).testBit (i % 64) = (f i && decide (i < n)) := by
  by_cases h : i / 64 < (n + 63) / 64
  · have : (wordsOf n f).getD (i / 64) 0 = bitsN (fun j => f (64 * (i / 64) + j) && decide (64 * (i / 64) + j < n)) 64 := by
      rw [List.getD_eq_getElem?_getD]; simp [wordsOf, h]
    rw [this, bitsN_bit, show 64 * (i / 64) + i % 64 = i by omega]
    simp [show i % 64 < 64 by omega]
  · have : (wordsOf n f).getD (i / 64) 0 = 0 := by
      rw [List.getD_eq_getElem?_getD, List.getElem?_eq_none (by rw [wordsOf_length]; omega)]; rfl
    rw [this, Nat.zero_testBit]
    simp [show ¬ i < n by omega]

/-- The words of a set that is made of words. -/
def cutW (n : Nat) (g : Nat → Nat) (i : Nat) : Nat := if n % 64 ≠ 0 ∧ i + 1 = (n + 63) / 64 then g i % 2 ^ (n % 64) else g i

theorem cutW_words {n : Nat} {g : Nat → Nat} (hg : ∀ i, g i < 2 ^ 64) : tab ((n + 63) / 64) (cutW n g) = wordsOf n fun i => (g (i / 64)).testBit (i % 64) := by
  unfold tab wordsOf
  refine List.map_congr_left fun i hi => ?_
  have hi := List.mem_range.1 hi
  apply Nat.eq_of_testBit_eq
  intro j
  rw [bitsN_bit]
  unfold cutW
  by_cases hj : j < 64
  · show _ = (decide (j < 64) && ((g ((64 * i + j) / 64)).testBit ((64 * i + j) % 64) && decide (64 * i + j < n)))
    rw [show (64 * i + j) / 64 = i by omega, show (64 * i + j) % 64 = j by omega]
    split
    · rename_i h
      rw [Nat.testBit_mod_two_pow]
      have : (j < n % 64) ↔ (64 * i + j < n) := by omega
      simp [hj, this, Bool.and_comm]
    · rename_i h
      simp [hj, show 64 * i + j < n by omega]
  · have hb : ∀ w : Nat, w < 2 ^ 64 → w.testBit j = false := fun w hw => Nat.testBit_lt_two_pow (Nat.lt_of_lt_of_le hw (Nat.pow_le_pow_right (by omega) (by omega)))
    have : (if n % 64 ≠ 0 ∧ i + 1 = (n + 63) / 64 then g i % 2 ^ (n % 64) else g i) < 2 ^ 64 := by
      split
      · exact Nat.lt_of_le_of_lt (Nat.mod_le _ _) (hg i)
      · exact hg i
    rw [hb _ this]
    simp [hj]

theorem and_mask {w m : Nat} (hw : w < 18446744073709551616) (hm : m < 64) :
    wU (((BitVec.ofInt 64 (w : Int) &&& BitVec.ofInt 64 (wU (wU (1 * 2 ^ min (m : Int).toNat 64) - 1))).toNat : Nat) : Int) = ((w % 2 ^ m : Nat) : Int) := by
  have hp : 2 ^ m < 2 ^ 64 := Nat.pow_lt_pow_right (by omega) hm
  have hp0 : 0 < 2 ^ m := Nat.pow_pos (by omega)
  have hmod : w % 2 ^ m < 2 ^ m := Nat.mod_lt _ hp0
  have hand := Nat.and_two_pow_sub_one_eq_mod w m
  rw [Int.toNat_natCast, Nat.min_eq_left (by omega), Int.one_mul, show ((2 : Int) ^ m) = ((2 ^ m : Nat) : Int) by simp, BitVec.toNat_and]
  generalize 2 ^ m = q at *
  rw [wU_nat (n := q) (by omega), wU_of (n := (q : Int) - 1) (by omega) (by omega), BitVec.toNat_ofInt, BitVec.toNat_ofInt]
  have e3 : (((w : Nat) : Int) % ((2 ^ 64 : Nat) : Int)).toNat = w := by omega
  have e4 : (((q : Nat) : Int) - 1).toNat = q - 1 := by omega
  have e5 : ((((q : Nat) : Int) - 1) % ((2 ^ 64 : Nat) : Int)).toNat = q - 1 := by omega
  rw [e3, e5, hand, wU_nat (by omega)]

theorem cutSet_ct {b n : Nat} {s : Sl} {g : Nat → Nat} {K : Tup [] → World → Prop} {KP : List PanicEntry → World → Prop} {r' : List HP} (hn : n ≤ 1024) (hg : ∀ i, g i < 2 ^ 64)
    (h : ent e (arr 22 sU s (tab ((n + 63) / 64) fun i => ((cutW n g i : Nat) : Int)) :: r) (K ()))
    (k : Take l (arr 22 sU s (tab ((n + 63) / 64) fun i => ((g i : Nat) : Int))) r := by with_reducible first | assumption | ((repeat (first | exact .here | apply Take.there)); done)) (kb : Take l (blk b 208 [vI n, .slice s.base s.len s.cap]) r' := by with_reducible first | assumption | ((repeat (first | exact .here | apply Take.there)); done)) :
    ent e l ((wpM PR).call 141 [vP b] [] K KP) := by
  refine ent_call (fn := Go.Proofs.Try.f141) (by kernel_rfl) ?_
  rw [nf141_eq]
  refine ent_load1 (n : Int) kb rfl ?_
  rw [show (64 : Int) = ((64 : Nat) : Int) from rfl, tmod_nat]
  refine ent_ne (fun c => ?_) (fun c => ?_)
  · refine ent_draw ?_
    refine ent_load1 s kb rfl ?_
    refine ent_load1 s kb rfl ?_
    refine ent_len k fun hl => ?_
    rw [tab_len] at hl
    have e1 : wI ((s.len : Int) - 1) = (((n + 63) / 64 - 1 : Nat) : Int) := by rw [wI_of (by omega) (by omega)]; omega
    rw [e1]
    refine ent_atT ((n + 63) / 64 - 1) rfl (by omega) ?_ k
    refine ent_load1 (n : Int) kb rfl ?_
    rw [tmod_nat]
    refine ent_guard (by omega) ?_
    rw [and_mask (hg _) (by omega)]
    refine ent_putT ((n + 63) / 64 - 1) (((g ((n + 63) / 64 - 1) % 2 ^ (n % 64) : Nat) : Int)) rfl (by omega) rfl ?_ rfl k
    rw [tab_congr (g := fun i => ((cutW n g i : Nat) : Int)) (fun i hi => ?_)]
    · exact h
    · unfold cutW set1
      by_cases hi2 : i = (n + 63) / 64 - 1
      · rw [if_pos hi2, if_pos ⟨by omega, by omega⟩, hi2]
      · rw [if_neg hi2, if_neg (by omega)]
  · rw [tab_congr (g := fun i => ((g i : Nat) : Int)) (fun i hi => ?_)] at h
    · exact ent_sub (Sub.cons k .refl) h
    · unfold cutW
      rw [if_neg (by omega)]

theorem fit_ct {K : Tup [sI, sI] → World → Prop} {KP : List PanicEntry → World → Prop} (n : Nat) (hn : n ≤ 1024) (h : ent e l (K ((n : Int), (((n + 63) / 64 : Nat) : Int), ()))) :
    ent e l ((wpM PR).call 140 [vI (n : Int)] [sI, sI] K KP) := by
  refine ent_call (fn := Go.Proofs.Try.f140) (by kernel_rfl) ?_
  rw [nf140_eq]
  have e0 : (if (if (1048576 : Int) < (n : Int) then 1048576 else (n : Int)) > 0 then (if (1048576 : Int) < (n : Int) then 1048576 else (n : Int)) else 0) = (n : Int) := by
    rw [if_neg (show ¬ (1048576 : Int) < (n : Int) by omega)]; split <;> omega
  have e1 : wI ((wI ((n : Int) + 63)).tdiv 64) = (((n + 63) / 64 : Nat) : Int) := by
    rw [wI_of (n := (n : Int) + 63) (by omega) (by omega), show (n : Int) + 63 = ((n + 63 : Nat) : Int) by omega, show (64 : Int) = ((64 : Nat) : Int) from rfl, tdiv_nat, wI_nat (by omega)]
  show ent e l (K ((if (if (1048576 : Int) < (n : Int) then 1048576 else (n : Int)) > 0 then (if (1048576 : Int) < (n : Int) then 1048576 else (n : Int)) else 0), wI ((wI ((if (if (1048576 : Int) < (n : Int) then 1048576 else (n : Int)) > 0 then (if (1048576 : Int) < (n : Int) then 1048576 else (n : Int)) else 0) + 63)).tdiv 64), ()))
  rw [e0, e1]
  exact h

theorem ofBits_ct {sw : Sl} {ws : List Nat} {x : Int} {K : Tup [sP] → World → Prop} {KP : List PanicEntry → World → Prop} (n : Nat) (hx : x = n) (hn : n ≤ 1024) (hw : ∀ w ∈ ws, w < 2 ^ 64)
    (h : ∀ b, ent e (isSet b n (fun i => (ws.getD (i / 64) 0).testBit (i % 64)) :: l) (K (some ⟨b, 0, none⟩, ())))
    (k : Take l (arr 22 sU sw (ws.map fun w : Nat => (w : Int))) r := by with_reducible first | assumption | ((repeat (first | exact .here | apply Take.there)); done)) :
    ent e l ((wpM PR).call 124 [.slice sw.base sw.len sw.cap, vI x] [sP] K KP) := by
  subst hx
  refine ent_call (fn := Go.Proofs.Try.f124) (by kernel_rfl) ?_
  rw [nf124_eq]
  refine fit_ct n hn ?_
  refine ent_make' u64_elem ((n + 63) / 64) ((n + 63) / 64) rfl rfl (Nat.le_refl _) (by omega) (by omega) fun s hl hc => ?_
  refine ent_new fun b => ?_
  refine ent_load1 s .here rfl ?_
  refine ent_copy (xs := List.replicate ((n + 63) / 64) (0 : Int)) u64_elem rfl rfl (.there .here) (.there k) ?_
  have hcopy : ((ws.map fun w : Nat => (w : Int)).take (min (ws.map fun w : Nat => (w : Int)).length (List.replicate ((n + 63) / 64) (0 : Int)).length) ++
      (List.replicate ((n + 63) / 64) (0 : Int)).drop (min (ws.map fun w : Nat => (w : Int)).length (List.replicate ((n + 63) / 64) (0 : Int)).length)) = tab ((n + 63) / 64) fun i => ((ws.getD i 0 : Nat) : Int) := by
    rw [List.length_map, List.length_replicate]
    apply List.ext_getElem?
    intro i
    by_cases hi : i < (n + 63) / 64
    · rw [tab_get hi]
      by_cases h2 : i < ws.length
      · rw [List.getElem?_append_left (by simp; omega), List.getElem?_take, if_pos (by omega), List.getElem?_map, List.getD_eq_getElem?_getD, List.getElem?_eq_getElem h2]; rfl
      · rw [List.getElem?_append_right (by simp; omega), List.getElem?_drop, List.getElem?_replicate, if_pos (by simp; omega), List.getD_eq_getElem?_getD, List.getElem?_eq_none (by omega)]; rfl
    · rw [List.getElem?_eq_none (by simp; omega), List.getElem?_eq_none (by rw [tab_len]; omega)]
  rw [hcopy]
  have hg : ∀ i, ws.getD i 0 < 2 ^ 64 := fun i => by
    rw [List.getD_eq_getElem?_getD]
    cases hi : ws[i]? with
    | none => exact Nat.pow_pos (by omega)
    | some w => exact hw w (List.mem_of_getElem? hi)
  refine cutSet_ct hn hg ?_ .here (.there .here)
  have hwords : (tab ((n + 63) / 64) fun i => ((cutW n (fun i => ws.getD i 0) i : Nat) : Int)) = (wordsOf n fun i => (ws.getD (i / 64) 0).testBit (i % 64)).map fun w : Nat => (w : Int) := by
    rw [← cutW_words hg, tab_map]
  rw [hwords]
  refine ent_sub (Sub.trans (Sub.cons (.there .here) (Sub.cons .here .refl)) ?_) (h b)
  exact Sub.ex s (Sub.all (Sub.cons .here (Sub.cons .here (Sub.fact hn .refl))))

theorem newSet_ct {x : Int} {K : Tup [sP] → World → Prop} {KP : List PanicEntry → World → Prop} (n : Nat) (hx : x = n) (hn : n ≤ 1024) (f : Nat → Bool) (hf : ∀ i, i < n → f i = false)
    (h : ∀ b, ent e (isSet b n f :: l) (K (some ⟨b, 0, none⟩, ()))) :
    ent e l ((wpM PR).call 120 [vI x] [sP] K KP) := by
  refine ent_call (fn := Go.Proofs.Try.f120) (by kernel_rfl) ?_
  rw [nf120_eq]
  refine ent_sub (Sub.arr_nil (t := 22) (sh := sU) .refl) ?_
  refine ofBits_ct (sw := ⟨none, 0, 0⟩) (ws := []) n hx hn (by simp) (fun b => ?_) .here
  rw [isSet_congr (g := f) (fun i hi => by simp [hf i hi])]
  exact ent_sub (Sub.cons .here (Sub.drop .refl)) (h b)

theorem resize_ct {b n : Nat} {f : Nat → Bool} {x : Int} {K : Tup [] → World → Prop} {KP : List PanicEntry → World → Prop} (m : Nat) (hx : x = m) (hm : m ≤ 1024)
    (h : ent e (isSet b m (fun i => f i && decide (i < n)) :: r) (K ()))
    (k : Take l (isSet b n f) r := by with_reducible first | assumption | ((repeat (first | exact .here | apply Take.there)); done)) :
    ent e l ((wpM PR).call 133 [vP b, vI x] [] K KP) := by
  refine ent_call (fn := Go.Proofs.Try.f133) (by kernel_rfl) ?_
  rw [nf133_eq]
  refine ent_set_open k fun s hn hl back => ?_
  refine ent_load1 s .here rfl ?_
  refine ofBits_ct (ws := wordsOf n f) m hx hm (fun w hw => ?_) (fun b2 => ?_) (.there .here)
  · simp only [wordsOf, List.mem_map] at hw
    obtain ⟨i, _, rfl⟩ := hw
    exact bitsN_lt _ 64
  · refine ent_set_open .here fun s2 hm2 hl2 _ => ?_
    refine ent_load (s := .agg [kI, .slice]) ((m : Int), s2, ()) .here (fun i v hv => by rw [Nat.zero_add]; exact hv) ?_
    refine ent_store (.there (.there .here)) (by intro u hu; simp at hu; rcases hu with rfl | rfl <;> rfl) (by simp) ?_
    have hf : isSet b m (fun i => f i && decide (i < n)) = isSet b m fun i => ((wordsOf n f).getD (i / 64) 0).testBit (i % 64) := isSet_congr fun i _ => wordsOf_bit.symm
    rw [hf] at h
    refine ent_sub (Sub.trans (b := blk b 208 [vI m, .slice s2.base s2.len s2.cap] :: arr 22 sU s2 ((wordsOf m fun i => ((wordsOf n f).getD (i / 64) 0).testBit (i % 64)).map fun w : Nat => (w : Int)) :: r) ?_ ?_) h
    · exact Sub.cons .here (Sub.cons (.there .here) (Sub.drop (Sub.drop .refl)))
    · exact Sub.ex s2 (Sub.all (Sub.cons .here (Sub.cons .here (Sub.fact hm .refl))))

theorem words_ct {b n : Nat} {f : Nat → Bool} {K : Tup [sS] → World → Prop} {KP : List PanicEntry → World → Prop}
    (h : ∀ s, ent e (arr 22 sU s ((wordsOf n f).map fun w : Nat => (w : Int)) :: l) (K (s, ())))
    (k : Take l (isSet b n f) r := by with_reducible first | assumption | ((repeat (first | exact .here | apply Take.there)); done)) :
    ent e l ((wpM PR).call 134 [vP b] [sS] K KP) := by
  refine ent_call (fn := Go.Proofs.Try.f134) (by kernel_rfl) ?_
  rw [nf134_eq]
  refine ent_set_open k fun s hn hl back => ?_
  refine ent_load1 s .here rfl ?_
  refine ent_sub (Sub.arr_nil (t := 22) (sh := sU) .refl) ?_
  refine ent_append2 (s := ⟨none, 0, 0⟩) (xs := []) u64_elem rfl (by decide) .here (.there .here) (by simp [wordsOf]; omega) (by simp [wordsOf]; omega) fun s' hs' => ?_
  rw [List.nil_append]
  exact ent_sub (Sub.cons .here (Sub.trans (back f r) (Sub.untake k))) (h s')

end Go.Proofs.Ytdmfnlcbfmahhaa
