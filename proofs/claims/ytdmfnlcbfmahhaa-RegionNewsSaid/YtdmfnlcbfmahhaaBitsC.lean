/- What the functions of the sets of bits do. -/
import Derived.Test.YtdmfnlcbfmahhaaMemC
import Derived.Test.YtdmfnlcbfmahhaaNfBits
namespace Go.Proofs.Ytdmfnlcbfmahhaa
open Go Hl
set_option maxRecDepth 100000

variable {e : Still} {l r : List HP}

/-! ## Words of truths -/

def bitsN (g : Nat → Bool) : Nat → Nat
  | 0 => 0
  | k + 1 => bitsN g k + (if g k then 2 ^ k else 0)

theorem bitsN_lt (g : Nat → Bool) (k : Nat) : bitsN g k < 2 ^ k := by
  induction k with
  | zero => simp [bitsN]
  | succ k ih => simp only [bitsN, Nat.pow_succ]; split <;> omega

theorem bitsN_bit (g : Nat → Bool) (k j : Nat) : (bitsN g k).testBit j = (decide (j < k) && g j) := by
  induction k with
  | zero => simp [bitsN]
  | succ k ih =>
    have hlt := bitsN_lt g k
    simp only [bitsN]
    by_cases hk : g k = true
    · rw [if_pos hk, Nat.add_comm]
      by_cases hj : j = k
      · subst hj
        rw [Nat.testBit_two_pow_add_eq, ih]; simp [hk]
      · by_cases hjk : j < k
        · rw [Nat.testBit_two_pow_add_gt hjk, ih]; simp [hjk, show j < k + 1 by omega]
        · rw [Nat.testBit_lt_two_pow (by
            have : 2 ^ (k + 1) ≤ 2 ^ j := Nat.pow_le_pow_right (by omega) (by omega)
            rw [Nat.pow_succ] at this; omega)]
          simp [show ¬ j < k + 1 by omega]
    · rw [if_neg hk, Nat.add_zero, ih]
      by_cases hj : j = k
      · subst hj; simp [hk]
      · have : decide (j < k) = decide (j < k + 1) := by rw [Bool.eq_iff_iff]; simp; omega
        rw [this]

/-- The words of a set of numbers below n. -/
def wordsOf (n : Nat) (f : Nat → Bool) : List Nat := (List.range ((n + 63) / 64)).map fun i => bitsN (fun j => f (64 * i + j) && decide (64 * i + j < n)) 64

def isSet (b n : Nat) (f : Nat → Bool) : HP := ex fun s : Sl => all [blk b 208 [vI n, .slice s.base s.len s.cap], arr 22 sU s ((wordsOf n f).map fun w : Nat => (w : Int)), fact (n ≤ 1024)]

theorem wordsOf_length {n : Nat} {f : Nat → Bool} : (wordsOf n f).length = (n + 63) / 64 := by simp [wordsOf]

theorem wordsOf_get {n i : Nat} {f : Nat → Bool} (h : i < n) : (wordsOf n f)[i / 64]? = some (bitsN (fun j => f (64 * (i / 64) + j) && decide (64 * (i / 64) + j < n)) 64) := by
  simp [wordsOf, show i / 64 < (n + 63) / 64 by omega]

def flipped (f : Nat → Bool) (i : Nat) : Nat → Bool := fun j => if j = i then !f i else f j

theorem wordsOf_flip {n i : Nat} {f : Nat → Bool} (h : i < n) :
    (wordsOf n f).set (i / 64) (bitsN (fun j => f (64 * (i / 64) + j) && decide (64 * (i / 64) + j < n)) 64 ^^^ 2 ^ (i % 64)) = wordsOf n (flipped f i) := by
  apply List.ext_getElem?
  intro q
  rw [List.getElem?_set]
  by_cases hq : q < (n + 63) / 64
  · by_cases hqi : i / 64 = q
    · subst hqi
      rw [if_pos rfl, if_pos (by rw [wordsOf_length]; omega)]
      simp only [wordsOf, List.getElem?_map, List.getElem?_range hq, Option.map_some]
      congr 1
      apply Nat.eq_of_testBit_eq
      intro j
      rw [Nat.testBit_xor, bitsN_bit, bitsN_bit, Nat.testBit_two_pow]
      by_cases hj : j = i % 64
      · have : 64 * (i / 64) + j = i := by omega
        simp [this, flipped, h, show i % 64 = j from hj.symm, show j < 64 by omega]
      · have : 64 * (i / 64) + j ≠ i := by omega
        have hne : ¬ i % 64 = j := fun h => hj h.symm
        simp [this, flipped, hne]
    · rw [if_neg hqi]
      simp only [wordsOf, List.getElem?_map, List.getElem?_range hq, Option.map_some]
      congr 1
      apply Nat.eq_of_testBit_eq
      intro j
      rw [bitsN_bit, bitsN_bit]
      by_cases hj : j < 64
      · have : 64 * q + j ≠ i := by omega
        simp [flipped, this]
      · simp [hj]
  · rw [if_neg (by omega), List.getElem?_eq_none (by rw [wordsOf_length]; omega), List.getElem?_eq_none (by rw [wordsOf_length]; omega)]

theorem ent_set_open {b n : Nat} {f : Nat → Bool} {X : World → Prop} (k : Take l (isSet b n f) r)
    (h : ∀ s : Sl, n ≤ 1024 → s.len = (n + 63) / 64 → (∀ f' r', Sub (blk b 208 [vI n, .slice s.base s.len s.cap] :: arr 22 sU s ((wordsOf n f').map fun w : Nat => (w : Int)) :: r') (isSet b n f' :: r')) →
      ent e (blk b 208 [vI n, .slice s.base s.len s.cap] :: arr 22 sU s ((wordsOf n f).map fun w : Nat => (w : Int)) :: r) X) : ent e l X := by
  refine ent_ex k fun s => ent_all .here ?_
  refine ent_fact (.there (.there .here)) fun hn => ?_
  intro w hw
  have hl : s.len = (n + 63) / 64 := by
    obtain ⟨a, b, s', hs', _⟩ := (show Take _ (arr _ sU s ((wordsOf n f).map fun w : Nat => (w : Int))) _ from .there .here).part hw.heap
    rcases hs' with ⟨h1, h2, _⟩ | ⟨_, _, _, e2, _⟩
    · rw [h1]
      have : (wordsOf n f).length = 0 := by simpa using congrArg List.length h2
      rw [wordsOf_length] at this
      exact this.symm
    · rw [e2, List.length_map, wordsOf_length]
  refine h s hn hl (fun f' r' => ?_) w hw
  exact Sub.ex s (Sub.all (Sub.cons .here (Sub.cons .here (Sub.fact hn .refl))))

theorem has_ct {b n : Nat} {f : Nat → Bool} {x : Int} {K : Tup [sB] → World → Prop} {KP : List PanicEntry → World → Prop} (i : Nat) (k : Take l (isSet b n f) r) (hx : x = i) (h : ent e l (K (decide (i < n), ()))) :
    ent e l ((wpM PR).call 131 [vP b, vI x] [sB] K KP) := by
  subst hx
  refine ent_call (fn := Go.Proofs.Try.f131) (by kernel_rfl) ?_
  rw [nf131_eq]
  refine ent_cond (fun c => ?_) (fun c => absurd c (by simp))
  refine ent_set_open k fun s hn hl back => ?_
  refine ent_load1 (n : Int) .here rfl ?_
  rw [show decide ((i : Int) < (n : Int)) = decide (i < n) by rw [Bool.eq_iff_iff]; simp]
  exact ent_sub (Sub.trans (back f r) (Sub.untake k)) h

theorem bit_of {w k : Nat} (hw : w < 18446744073709551616) (hk : k < 64) : (wU (((BitVec.ofInt 64 ((w : Int).fdiv (2 ^ min ((k : Int)).toNat 64)) &&& BitVec.ofInt 64 1).toNat : Nat) : Int) == 1) = w.testBit k := by
  rw [shr_nat (by omega), BitVec.toNat_and, BitVec.toNat_ofInt]
  have h1 : w / 2 ^ k ≤ w := Nat.div_le_self _ _
  rw [Nat.testBit_eq_decide_div_mod_eq]
  generalize w / 2 ^ k = q at *
  have e3 : (((q : Nat) : Int) % ((2 ^ 64 : Nat) : Int)).toNat = q := by omega
  rw [e3, show (BitVec.ofInt 64 1).toNat = 1 from rfl, Nat.and_one_is_mod, wU_nat (by omega), Bool.eq_iff_iff]
  simp
  omega

theorem flip_of {w k : Nat} (hw : w < 18446744073709551616) (hk : k < 64) :
    wU (((BitVec.ofInt 64 (w : Int) ^^^ BitVec.ofInt 64 (wU (1 * 2 ^ min ((k : Int)).toNat 64))).toNat : Nat) : Int) = ((w ^^^ 2 ^ k : Nat) : Int) := by
  have hp : 2 ^ k < 2 ^ 64 := Nat.pow_lt_pow_right (by omega) hk
  rw [Int.toNat_natCast, Nat.min_eq_left (by omega), Int.one_mul, show ((2 : Int) ^ k) = ((2 ^ k : Nat) : Int) by simp, BitVec.toNat_xor]
  have hx : w ^^^ 2 ^ k < 2 ^ 64 := Nat.xor_lt_two_pow hw hp
  generalize 2 ^ k = q at *
  rw [wU_nat (n := q) (by omega), BitVec.toNat_ofInt, BitVec.toNat_ofInt]
  have e3 : (((w : Nat) : Int) % ((2 ^ 64 : Nat) : Int)).toNat = w := by omega
  have e4 : (((q : Nat) : Int) % ((2 ^ 64 : Nat) : Int)).toNat = q := by omega
  rw [e3, e4, wU_nat (by omega)]

theorem getBit_ct {b n : Nat} {f : Nat → Bool} {x : Int} {K : Tup [sB] → World → Prop} {KP : List PanicEntry → World → Prop} (i : Nat) (k : Take l (isSet b n f) r) (hx : x = i) (h : ent e l (K (decide (i < n) && f i, ()))) :
    ent e l ((wpM PR).call 132 [vP b, vI x] [sB] K KP) := by
  subst hx
  refine ent_call (fn := Go.Proofs.Try.f132) (by kernel_rfl) ?_
  rw [nf132_eq]
  refine has_ct i k rfl ?_
  refine ent_cond (fun c => ?_) (fun c => ?_)
  · have hi : i < n := of_decide_eq_true c
    refine ent_set_open k fun s hn hl back => ?_
    refine ent_load1 s .here rfl ?_
    rw [show (64 : Int) = ((64 : Nat) : Int) from rfl, tdiv_nat, tmod_nat, wI_nat (by omega)]
    refine ent_guard (by omega) ?_
    refine ent_get (_ : Int) (.there .here) (by rw [Int.toNat_natCast, List.getElem?_map, wordsOf_get hi]; rfl) ?_
    refine ent_guard (by omega) ?_
    rw [bit_of (bitsN_lt _ 64) (by omega), bitsN_bit, show 64 * (i / 64) + i % 64 = i by omega]
    have : (decide (i % 64 < 64) && (f i && decide (i < n))) = (decide (i < n) && f i) := by simp [hi, show i % 64 < 64 by omega]
    rw [this]
    exact ent_sub (Sub.trans (back f r) (Sub.untake k)) h
  · have hi : ¬ i < n := of_decide_eq_false c
    rw [decide_eq_false hi] at h
    exact h

theorem flipBit_ct {b n : Nat} {f : Nat → Bool} {x : Int} {K : Tup [sB] → World → Prop} {KP : List PanicEntry → World → Prop} (i : Nat) (k : Take l (isSet b n f) r) (hx : x = i) (h1 : i < n → ent e (isSet b n (flipped f i) :: r) (K (true, ()))) (h2 : ¬ i < n → ent e l (K (false, ()))) :
    ent e l ((wpM PR).call 104 [vP b, vI x] [sB] K KP) := by
  subst hx
  refine ent_call (fn := Go.Proofs.Try.f104) (by kernel_rfl) ?_
  rw [nf104_eq]
  refine has_ct i k rfl ?_
  refine ent_cond (fun c => ?_) (fun c => ?_)
  · exact h2 (by simpa using c)
  · have hi : i < n := by simpa using c
    refine ent_set_open k fun s hn hl back => ?_
    refine ent_draw ?_
    refine ent_load1 s .here rfl ?_
    rw [show (64 : Int) = ((64 : Nat) : Int) from rfl, tdiv_nat, tmod_nat, wI_nat (by omega)]
    refine ent_guard (by omega) ?_
    refine ent_get (_ : Int) (.there .here) (by rw [Int.toNat_natCast, List.getElem?_map, wordsOf_get hi]; rfl) ?_
    refine ent_guard (by omega) (ent_guard (by omega) ?_)
    rw [flip_of (bitsN_lt _ 64) (by omega)]
    refine ent_set (sh := sU) (x := ((bitsN (fun j => f (64 * (i / 64) + j) && decide (64 * (i / 64) + j < n)) 64 ^^^ 2 ^ (i % 64) : Nat) : Int)) rfl (.there .here) (by rw [Int.toNat_natCast, List.length_map, wordsOf_length]; omega) rfl ?_
    rw [Int.toNat_natCast, ← List.map_set (f := fun w : Nat => (w : Int)), wordsOf_flip hi]
    exact ent_sub (Sub.trans (Sub.cons (.there .here) (Sub.cons .here .refl)) (back (flipped f i) r)) (h1 hi)

end Go.Proofs.Ytdmfnlcbfmahhaa
