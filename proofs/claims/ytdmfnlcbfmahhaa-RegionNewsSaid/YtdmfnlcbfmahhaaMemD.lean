/- The simulated memory: making it, regions that come and go, many bytes read and written. -/
import Derived.Test.YtdmfnlcbfmahhaaMemC
import Derived.Test.YtdmfnlcbfmahhaaHlGrow
namespace Go.Proofs.Ytdmfnlcbfmahhaa
open Go Hl
set_option maxRecDepth 100000

variable {e : Still} {l r : List HP}

theorem Hl.Sub.mems_nil {t : TypeId} {size : Nat} {mem : Nat → Nat} {l' : List HP} (h : Sub l l') : Sub l (mems t [] size mem :: l') :=
  fun _ y => cons_part (star_mono (fun _ z => ⟨fun k g hk => by simp at hk, List.nodup_nil, fun b _ => z b⟩) (fun _ z => z) (emp_star (h _ y)))

/-! ## Which numbers may be -/

structure Conf (b n k : Nat) : Prop where
  order : k ≤ 8
  one : 1 ≤ n
  limit : n ≤ 64
  pages : n * 2 ^ k ≤ 1024
  base : b ≠ 0
  align : b % (4096 * 2 ^ k) = 0
  top : b + 4096 * 2 ^ k * n ≤ 9223372036854775808

/-- A Config of these numbers may be. -/
def isConf (x y z : Int) : Prop := ∃ b n k : Nat, x = b ∧ y = n ∧ z = k ∧ Conf b n k

theorem pow_le8 {k : Nat} (h : k ≤ 8) : 2 ^ k ≤ 256 := Nat.pow_le_pow_right (n := 2) (by omega) h

theorem may_ct {x y z : Int} {K : Tup [sB] → World → Prop} {KP : List PanicEntry → World → Prop} (hx : 0 ≤ x) (hx2 : x < 18446744073709551616)
    (h1 : ∀ b n k : Nat, x = b → y = n → z = k → Conf b n k → ent e l (K (true, ()))) (h2 : ¬ isConf x y z → ent e l (K (false, ()))) :
    ent e l ((wpM PR).call 119 [.agg #[vU x, vI y, vI z]] [sB] K KP) := by
  refine ent_call (fn := Go.Proofs.Try.f119) (by kernel_rfl) ?_
  rw [nf119_eq]
  refine ent_new fun a => ent_sub (l' := blk a _ [vU x, vI y, vI z] :: l) .refl ?_
  have no : ¬ isConf x y z → ent e (blk a 24 [vU x, vI y, vI z] :: l) (K (false, ())) := fun h => ent_drop (h2 h)
  refine ent_joinP (A := Unit) (fun _ _ => 0 ≤ z ∧ z ≤ 8 ∧ 1 ≤ y ∧ y ≤ 64 ∧ y * 2 ^ z.toNat ≤ 1024) (fun _ => blk a 24 [vU x, vI y, vI z] :: l) (fun _ _ hp => ?_) (fun kk hkk => ?_)
  · obtain ⟨hz0, hz8, hy1, hy2, hpg⟩ := hp
    obtain ⟨k, rfl⟩ : ∃ k : Nat, z = k := ⟨z.toNat, by omega⟩
    obtain ⟨n, rfl⟩ : ∃ n : Nat, y = n := ⟨y.toNat, by omega⟩
    obtain ⟨b, rfl⟩ : ∃ b : Nat, x = b := ⟨x.toNat, by omega⟩
    have hk : k ≤ 8 := by omega
    have hp := pow_le8 hk
    have hp0 : 0 < 2 ^ k := Nat.pow_pos (by omega)
    have hr : wU (4096 * 2 ^ min (k : Int).toNat 64) = ((4096 * 2 ^ k : Nat) : Int) := by
      rw [Int.toNat_natCast, Nat.min_eq_left (by omega), show (4096 : Int) * 2 ^ k = ((4096 * 2 ^ k : Nat) : Int) by simp, wU_nat (by omega)]
    have hpg' : n * 2 ^ k ≤ 1024 := by
      have : ((n * 2 ^ k : Nat) : Int) ≤ 1024 := by simpa using hpg
      omega
    have hall : 4096 * 2 ^ k * n = 4096 * (n * 2 ^ k) := by rw [Nat.mul_assoc, Nat.mul_comm (2 ^ k)]
    refine ent_load1 (k : Int) (by with_reducible first | assumption | ((repeat (first | exact .here | apply Take.there)); done)) rfl ?_
    refine ent_guard (show (0 : Int) ≤ (k : Int) by omega) ?_
    refine ent_load1 (b : Int) (by with_reducible first | assumption | ((repeat (first | exact .here | apply Take.there)); done)) rfl ?_
    rw [hr]
    refine ent_ne (fun hb => ?_) (fun hb => no ?_)
    · refine ent_load1 (b : Int) (by with_reducible first | assumption | ((repeat (first | exact .here | apply Take.there)); done)) rfl ?_
      refine ent_guard (show ((4096 * 2 ^ k : Nat) : Int) ≠ 0 by omega) ?_
      rw [tmod_nat]
      refine ent_eq (fun hm => ?_) (fun hm => no ?_)
      · refine ent_load1 (b : Int) (by with_reducible first | assumption | ((repeat (first | exact .here | apply Take.there)); done)) rfl ?_
        refine ent_le (fun hle => ?_) (fun hle => no ?_)
        · refine ent_load1 (n : Int) (by with_reducible first | assumption | ((repeat (first | exact .here | apply Take.there)); done)) rfl ?_
          refine ent_load1 (b : Int) (by with_reducible first | assumption | ((repeat (first | exact .here | apply Take.there)); done)) rfl ?_
          have e1 : wU (((4096 * 2 ^ k : Nat) : Int) * wU (n : Int)) = ((4096 * 2 ^ k * n : Nat) : Int) := by
            rw [wU_nat (by omega), ← Int.natCast_mul, wU_nat (by omega)]
          have e2 : wU (9223372036854775808 - (b : Int)) = ((9223372036854775808 - b : Nat) : Int) := by rw [wU_of (by omega) (by omega)]; omega
          rw [e1, e2]
          refine ent_drop ?_
          by_cases hc : 4096 * 2 ^ k * n ≤ 9223372036854775808 - b
          · have hd : decide (((4096 * 2 ^ k * n : Nat) : Int) ≤ ((9223372036854775808 - b : Nat) : Int)) = true := decide_eq_true (by omega)
            rw [hd]
            exact h1 b n k rfl rfl rfl ⟨hk, by omega, by omega, hpg', by omega, by omega, by omega⟩
          · have hd : decide (((4096 * 2 ^ k * n : Nat) : Int) ≤ ((9223372036854775808 - b : Nat) : Int)) = false := decide_eq_false (by omega)
            rw [hd]
            refine h2 ?_
            rintro ⟨b', n', k', e1, e2, e3, hc'⟩
            have := hc'.top
            obtain rfl : b = b' := by omega
            obtain rfl : n = n' := by omega
            obtain rfl : k = k' := by omega
            omega
        · rintro ⟨b', n', k', e1, e2, e3, hc'⟩
          have := hc'.top
          omega
      · rintro ⟨b', n', k', e1, e2, e3, hc'⟩
        have := hc'.align
        obtain rfl : b = b' := by omega
        obtain rfl : k = k' := by omega
        omega
    · rintro ⟨b', n', k', e1, e2, e3, hc'⟩
      have := hc'.base
      omega
  · have out : ∀ {p : Prop}, (∀ b n k : Nat, x = b → y = n → z = k → Conf b n k → p) → ¬ p → ¬ isConf x y z := by
      rintro p hp hn ⟨b, n, k, e1, e2, e3, hc⟩
      exact hn (hp b n k e1 e2 e3 hc)
    refine ent_load1 z (by with_reducible first | assumption | ((repeat (first | exact .here | apply Take.there)); done)) rfl ?_
    refine ent_lt (fun c => no (out (p := 0 ≤ z) (fun b n k e1 e2 e3 hc => by omega) (by omega))) (fun c => ?_)
    refine ent_load1 z (by with_reducible first | assumption | ((repeat (first | exact .here | apply Take.there)); done)) rfl ?_
    refine ent_gt (fun c2 => no (out (p := z ≤ 8) (fun b n k e1 e2 e3 hc => by have := hc.order; omega) (by omega))) (fun c2 => ?_)
    refine ent_load1 y (by with_reducible first | assumption | ((repeat (first | exact .here | apply Take.there)); done)) rfl ?_
    refine ent_lt (fun c3 => no (out (p := 1 ≤ y) (fun b n k e1 e2 e3 hc => by have := hc.one; omega) (by omega))) (fun c3 => ?_)
    refine ent_load1 y (by with_reducible first | assumption | ((repeat (first | exact .here | apply Take.there)); done)) rfl ?_
    refine ent_gt (fun c4 => no (out (p := y ≤ 64) (fun b n k e1 e2 e3 hc => by have := hc.limit; omega) (by omega))) (fun c4 => ?_)
    refine ent_load1 y (by with_reducible first | assumption | ((repeat (first | exact .here | apply Take.there)); done)) rfl ?_
    refine ent_load1 z (by with_reducible first | assumption | ((repeat (first | exact .here | apply Take.there)); done)) rfl ?_
    refine ent_guard c ?_
    have hmn : min z.toNat 64 = z.toNat := Nat.min_eq_left (by omega)
    have hw : wI (y * 2 ^ min z.toNat 64) = y * 2 ^ z.toNat := by
      rw [hmn]
      obtain ⟨n, rfl⟩ : ∃ n : Nat, y = n := ⟨y.toNat, by omega⟩
      have hp := pow_le8 (k := z.toNat) (by omega)
      have : n * 2 ^ z.toNat ≤ 64 * 256 := Nat.mul_le_mul (by omega) hp
      rw [show (n : Int) * 2 ^ z.toNat = ((n * 2 ^ z.toNat : Nat) : Int) by simp, wI_nat (by omega)]
    rw [hw]
    refine ent_gt (fun c5 => no (out (p := y * 2 ^ z.toNat ≤ 1024) (fun b n k e1 e2 e3 hc => ?_) (by omega))) (fun c5 => ?_)
    · subst e2 e3
      have := hc.pages
      rw [Int.toNat_natCast, show (n : Int) * 2 ^ k = ((n * 2 ^ k : Nat) : Int) by simp]
      omega
    · exact hkk () _ ⟨c, c2, c3, c4, c5⟩

theorem newSpace_ct {x y z : Int} {K : Tup [sP, sI] → World → Prop} {KP : List PanicEntry → World → Prop} (hx : 0 ≤ x) (hx2 : x < 18446744073709551616)
    (h1 : ∀ b n k : Nat, x = b → y = n → z = k → Conf b n k → ∀ s, ent e (isSpace s ⟨b, n, k, 0, fun _ => 0⟩ :: l) (K (some ⟨s, 0, none⟩, 0, ()))) (h2 : ¬ isConf x y z → ent e l (K (none, 1, ()))) :
    ent e l ((wpM PR).call 73 [.agg #[vU x, vI y, vI z]] [sP, sI] K KP) := by
  refine ent_call (fn := Go.Proofs.Try.f73) (by kernel_rfl) ?_
  rw [nf73_eq]
  refine ent_new fun a => ?_
  refine ent_load (s := .agg [kU, kI, kI]) (x, y, z, ()) .here (fun i v hv => by rw [Nat.zero_add]; exact hv) ?_
  refine may_ct hx hx2 (fun b n k e1 e2 e3 hc => ?_) (fun hn => ?_)
  · subst e1 e2 e3
    refine ent_false ?_
    refine ent_draw ?_
    refine ent_load (s := .agg [kU, kI, kI]) ((b : Int), (n : Int), (k : Int), ()) .here (fun i v hv => by rw [Nat.zero_add]; exact hv) ?_
    refine ent_load1 (k : Int) .here rfl ?_
    refine ent_guard (show (0 : Int) ≤ (k : Int) by omega) ?_
    have hp := pow_le8 hc.order
    have hr : wU (4096 * 2 ^ min (k : Int).toNat 64) = ((4096 * 2 ^ k : Nat) : Int) := by
      rw [Int.toNat_natCast, Nat.min_eq_left (by have := hc.order; omega), show (4096 : Int) * 2 ^ k = ((4096 * 2 ^ k : Nat) : Int) by simp, wU_nat (by omega)]
    rw [hr]
    refine ent_new fun s => ?_
    refine ent_sub (Sub.trans (Sub.cons .here (Sub.drop .refl)) (Sub.ex (⟨none, 0, 0⟩, []) (Sub.all (Sub.fact ⟨⟨?_, hc.order, Nat.zero_le _, hc.pages, hc.top, fun _ => (show 0 < 256 by omega), hc.align⟩, rfl⟩ (Sub.cons .here (Sub.arr_nil (Sub.mems_nil .refl))))))) (h1 b n k rfl rfl rfl hc s)
    have := hc.base; show 0 < b; omega
  · refine ent_true ?_
    exact ent_drop (h2 hn)

/-! ## Regions -/

theorem mems_snoc {t : TypeId} {gs : List Nat} {size : Nat} {mem : Nat → Nat} {g : Nat} {h : Heap} (y : star (blk g t (bytesOf size mem gs.length)) (mems t gs size mem) h) : mems t (gs ++ [g]) size mem h := by
  obtain ⟨h1, h2, s, ⟨hb, hb'⟩, hm, hn, hz⟩ := y
  have hng : g ∉ gs := by
    intro hg
    obtain ⟨k, hk⟩ := List.getElem?_of_mem hg
    have a := hm k g hk
    rcases s.apart g with x | x
    · rw [hb] at x; cases x
    · rw [a] at x; cases x
  refine ⟨fun k g' hk => ?_, ?_, fun b hb0 => ?_⟩
  · rw [s.whole]
    by_cases hkl : k < gs.length
    · rw [List.getElem?_append_left hkl] at hk
      have hne : g' ≠ g := fun e => hng (e ▸ List.mem_of_getElem? hk)
      rw [hb' g' hne, hm k g' hk]; rfl
    · rw [List.getElem?_append_right (by omega)] at hk
      have hk0 : k = gs.length := by
        have := (List.getElem?_eq_some_iff.1 hk).1
        simp at this; omega
      subst hk0
      simp at hk
      subst hk
      rw [hb]; rfl
  · rw [List.nodup_append]
    exact ⟨hn, by simp, fun a ha b hb e => by simp at hb; subst hb e; exact hng ha⟩
  · rw [s.whole, hb' b (fun e => hb0 (by simp [e])), hz b (fun e => hb0 (by simp [e]))]; rfl

theorem mems_take {t : TypeId} {gs : List Nat} {size : Nat} {mem : Nat → Nat} (m : Nat) {h : Heap} (y : mems t gs size mem h) : star (mems t (gs.take m) size mem) any h := by
  obtain ⟨hm, hn, hz⟩ := y
  refine ⟨fun b => if b ∈ gs.take m then h b else none, fun b => if b ∈ gs.take m then none else h b, ⟨fun b => ?_, fun b => ?_⟩, ⟨fun k g hk => ?_, hn.sublist (List.take_sublist _ _), fun b hb => ?_⟩, trivial⟩
  · by_cases hb : b ∈ gs.take m
    · right; simp [hb]
    · left; simp [hb]
  · by_cases hb : b ∈ gs.take m
    · simp [hb]
    · simp [hb]
  · have hg : g ∈ gs.take m := List.mem_of_getElem? hk
    rw [List.getElem?_take] at hk
    split at hk
    · show (if g ∈ gs.take m then h g else none) = _
      rw [if_pos hg]; exact hm k g hk
    · cases hk
  · show (if b ∈ gs.take m then h b else none) = none
    rw [if_neg hb]

theorem mems_congr {t : TypeId} {gs : List Nat} {size : Nat} {mem mem' : Nat → Nat} (hm : ∀ k, k < gs.length → bytesOf size mem' k = bytesOf size mem k) {h : Heap} (y : mems t gs size mem h) : mems t gs size mem' h := by
  obtain ⟨a, b, c⟩ := y
  exact ⟨fun k g hk => by rw [hm k (List.getElem?_eq_some_iff.1 hk).1]; exact a k g hk, b, c⟩

theorem Hl.Sub.mems_snoc {t : TypeId} {gs : List Nat} {size : Nat} {mem mem' : Nat → Nat} {g : Nat} {r2 l' : List HP} (k1 : Take l (blk g t (bytesOf size mem' gs.length)) r) (k2 : Take r (mems t gs size mem) r2) (hm : ∀ k, k < gs.length → bytesOf size mem' k = bytesOf size mem k) (h : Sub r2 l') :
    Sub l (mems t (gs ++ [g]) size mem' :: l') :=
  Sub.trans (Sub.cons k1 (Sub.cons k2 h)) fun _ y => cons_part (star_mono (fun _ z => _root_.Go.Proofs.Ytdmfnlcbfmahhaa.mems_snoc (star_mono (fun _ z => z) (fun _ z => mems_congr hm z) z)) (fun _ z => z) (star_assoc (star_mono (fun _ z => z) (fun _ z => part_cons z) (part_cons y))))

/-- The space with a region more, all zero. -/
def Sp.grown (σ : Sp) : Sp := { σ with n := σ.n + 1, mem := fun i => if i < σ.size * σ.n then σ.mem i else 0 }

theorem Sp.Ok.grown {σ : Sp} (h : σ.Ok) (hn : σ.n < σ.limit) : σ.grown.Ok := ⟨h.base, h.order, hn, h.limit, h.top, fun i => by
  show (if i < σ.size * σ.n then σ.mem i else 0) < 256
  split
  · exact h.mem i
  · omega, h.align⟩

theorem partsOf_append {size : Nat} {gs : List Nat} {g : Nat} : partsOf size gs ++ [⟨some ⟨g, 0, none⟩, size, size⟩] = partsOf size (gs ++ [g]) := by simp [partsOf]

theorem cellsOf_s8 {xs : List Int} : cellsOf s8 xs = xs.map fun x => v8 x := by
  unfold cellsOf
  induction xs with
  | nil => rfl
  | cons x xs ih => rw [List.flatMap_cons, ih]; rfl

theorem parts_elem : Elem PR 157 63 sS ⟨none, 0, 0⟩ 24 := .of (by kernel_rfl) (by kernel_rfl)
theorem bytes_elem : Elem PR 63 5 s8 0 1 := .of (by kernel_rfl) (by kernel_rfl)

theorem Sp.Ok.lim {σ : Sp} (h : σ.Ok) : σ.limit ≤ 1024 := by
  have := h.limit
  have : σ.limit ≤ σ.limit * 2 ^ σ.order := Nat.le_mul_of_pos_right _ (Nat.pow_pos (by omega))
  omega

theorem commit_ct {s : Nat} {σ : Sp} {d : Bool} {K : Tup [sU, sI] → World → Prop} {KP : List PanicEntry → World → Prop}
    (h1 : d = false → σ.n < σ.limit → ent e (isSpace s σ.grown :: r) (K (((σ.base + σ.size * σ.n : Nat) : Int), 0, ()))) (h2 : d = true ∨ σ.n = σ.limit → ent e l (K (0, 2, ())))
    (k : Take l (isSpace s σ) r := by with_reducible first | assumption | ((repeat (first | exact .here | apply Take.there)); done)) :
    ent e l ((wpM PR).call 55 [vP s, vB d] [sU, sI] K KP) := by
  refine ent_call (fn := Go.Proofs.Try.f55) (by kernel_rfl) ?_
  rw [nf55_eq]
  refine ent_joinP (A := Unit) (fun _ _ => d = false ∧ σ.n < σ.limit) (fun _ => l) (fun _ _ hp => ?_) (fun kk hkk => ?_)
  · refine end_ct k ?_
    refine ent_space k fun ps gs hok hg hl back => ?_
    refine ent_draw ?_
    refine ent_load1 ps .here rfl ?_
    refine ent_load1 (σ.size : Int) .here rfl ?_
    have hsz := hok.size_le
    have hlim := hok.lim
    refine ent_makeB bytes_elem σ.size σ.size rfl rfl (Nat.le_refl _) (by omega) (by omega) fun g => ?_
    refine ent_keep' (fun w hw y hy => ?_) ?_
    · simp only [List.mem_singleton] at hy; subst hy
      exact hw.rowAt (.there .here) (fun i v hv => by
        cases i with
        | zero => simp at hv ⊢; exact hv
        | succ i => simp at hv)
    refine ent_new fun x6 => ?_
    refine ent_keep' (fun w hw y hy => ?_) ?_
    · simp only [List.mem_singleton] at hy; subst hy
      exact hw.rowAt (.there (.there .here)) (fun i v hv => by
        cases i with
        | zero => simp at hv ⊢; exact hv
        | succ i => simp at hv)
    refine ent_append1 (xs := partsOf σ.size gs) parts_elem rfl (by decide) ⟨some ⟨g, 0, none⟩, σ.size, σ.size⟩ (.there (.there (.there .here))) .here rfl (by simp [partsOf]; omega) (by simp [partsOf]; omega) fun s7 hs7 => ?_
    refine ent_store (.there (.there .here)) (by intro u hu; simp at hu; subst hu; rfl) (by simp) ?_
    rw [partsOf_append]
    refine ent_sub ?_ (h1 hp.1 hp.2)
    have hz : cellsOf s8 (List.replicate σ.size (0 : Int)) = bytesOf σ.size σ.grown.mem gs.length := by
      apply List.ext_getElem?
      intro i
      by_cases hi : i < σ.size
      · rw [bytesOf_get hi]
        have : ¬ gs.length * σ.size + i < σ.size * σ.n := by rw [hg, Nat.mul_comm]; omega
        have h0 : σ.grown.mem (gs.length * σ.size + i) = 0 := if_neg this
        rw [h0, cellsOf_s8, List.getElem?_map, List.getElem?_replicate, if_pos hi]; rfl
      · rw [List.getElem?_eq_none (by rw [cellsOf_length, List.length_replicate]; simp [Shp.width]; omega), List.getElem?_eq_none (by rw [bytesOf_length]; omega)]
    refine Sub.trans (b := blk s 159 [vU σ.base, vI σ.limit, vI σ.order, vU σ.size, .slice s7.base s7.len s7.cap] :: arr 63 sS s7 (partsOf σ.size (gs ++ [g])) :: mems 5 (gs ++ [g]) σ.size σ.grown.mem :: r) ?_ ?_
    · refine Sub.cons .here (Sub.cons .here ?_)
      rw [hz]
      refine Sub.mems_snoc (mem := σ.mem) .here .here (fun k hk => ?_) .refl
      unfold bytesOf
      refine List.map_congr_left fun i hi => ?_
      have hi := List.mem_range.1 hi
      have : k * σ.size + i < σ.size * σ.n := by
        have : (k + 1) * σ.size ≤ σ.n * σ.size := Nat.mul_le_mul_right _ (by omega)
        rw [Nat.add_mul] at this
        rw [Nat.mul_comm σ.size]; omega
      show v8 ((if k * σ.size + i < σ.size * σ.n then σ.mem (k * σ.size + i) else 0 : Nat) : Int) = _
      rw [if_pos this]
    · exact Sub.ex (s7, gs ++ [g]) (Sub.all (Sub.fact ⟨hok.grown hp.2, by simp [Sp.grown, hg]⟩ .refl))
  · refine ent_draw ?_
    cases d with
    | true => exact ent_true (h2 (.inl rfl))
    | false =>
      refine ent_false ?_
      refine ent_space k fun ps gs hok hg hl back => ?_
      refine ent_load1 ps .here rfl ?_
      refine ent_load1 (σ.limit : Int) .here rfl ?_
      refine ent_eq (fun c => ?_) (fun c => ?_)
      · exact ent_sub (Sub.trans (back σ hok rfl rfl rfl rfl r) (Sub.untake k)) (h2 (.inr (by omega)))
      · exact ent_sub (Sub.trans (back σ hok rfl rfl rfl rfl r) (Sub.untake k)) (hkk () _ ⟨rfl, by have := hok.n; omega⟩)

theorem mem_parts_take {size : Nat} {gs : List Nat} {m : Nat} : (partsOf size gs).take m = partsOf size (gs.take m) := by simp [partsOf, List.map_take]

def Sp.less (σ : Sp) (j : Nat) : Sp := { σ with n := σ.n - j }

theorem decommit_ct {s : Nat} {σ : Sp} {x : Int} {K : Tup [sI] → World → Prop} {KP : List PanicEntry → World → Prop}
    (h1 : ∀ j : Nat, x = j → j ≤ σ.n → ent e (isSpace s (σ.less j) :: r) (K (0, ()))) (h2 : (x < 0 ∨ (σ.n : Int) < x) → ent e l (K (1, ())))
    (k : Take l (isSpace s σ) r := by with_reducible first | assumption | ((repeat (first | exact .here | apply Take.there)); done)) :
    ent e l ((wpM PR).call 56 [vP s, vI x] [sI] K KP) := by
  refine ent_call (fn := Go.Proofs.Try.f56) (by kernel_rfl) ?_
  rw [nf56_eq]
  refine ent_joinP (A := Unit) (fun _ _ => 0 ≤ x ∧ x ≤ (σ.n : Int)) (fun _ => l) (fun _ _ hp => ?_) (fun kk hkk => ?_)
  · obtain ⟨j, rfl⟩ : ∃ j : Nat, x = j := ⟨x.toNat, by omega⟩
    have hj : j ≤ σ.n := by omega
    refine ent_space k fun ps gs hok hg hl back => ?_
    have hlim := hok.lim
    have hnl := hok.n
    refine ent_load1 ps .here rfl ?_
    refine ent_load1 ps .here rfl ?_
    have e1 : wI ((ps.len : Int) - (j : Int)) = ((σ.n - j : Nat) : Int) := by rw [wI_of (by omega) (by omega)]; omega
    rw [e1]
    refine ent_cap (.there .here) fun _ hcap => ?_
    have hpl : (partsOf σ.size gs).length = σ.n := by simp [partsOf, hg]
    refine ent_guard (by omega) ?_
    simp only [Int.toNat_natCast]
    have q1 : σ.n - j ≤ (partsOf σ.size gs).length := by omega
    have q2 : σ.n - j < (partsOf σ.size gs).length → (if ps.cap = σ.n - j then ps.base else ps.base.map fun x => x.add ((σ.n - j) * 1)) = ps.base.map fun a => a.add ((σ.n - j) * sS.width) := fun hlt => by rw [if_neg (by omega)]; rfl
    have q3 : ps.len - (σ.n - j) = (partsOf σ.size gs).length - (σ.n - j) := by omega
    refine ent_clear_tail parts_elem rfl (by decide) (σ.n - j) q1 q2 q3 (fun v => ?_) (.there .here)
    refine ent_load1 ps (.there .here) rfl ?_
    refine ent_guard (show (0 : Int) ≤ 0 ∧ 0 ≤ ((σ.n - j : Nat) : Int) ∧ ((σ.n - j : Nat) : Int) ≤ (ps.cap : Int) ∧ (ps.cap : Int) ≤ (ps.cap : Int) by omega) ?_
    refine ent_store (.there .here) (by intro u hu; simp at hu; subst hu; rfl) (by simp) ?_
    have q4 : σ.n - j ≤ ((partsOf σ.size gs).take (σ.n - j) ++ List.replicate ((partsOf σ.size gs).length - (σ.n - j)) (⟨none, 0, 0⟩ : Sl)).length := by rw [List.length_append, List.length_take, List.length_replicate]; omega
    refine ent_arr_take (s := ps) (σ.n - j) ⟨ps.base, σ.n - j, ps.cap⟩ q4 rfl rfl rfl ?_ (.there .here)
    rw [List.take_append_of_le_length (by simp [partsOf]; omega), List.take_take, Nat.min_self, mem_parts_take]
    refine ent_sub ?_ (h1 j rfl hj)
    refine Sub.trans (b := blk s 159 [vU σ.base, vI σ.limit, vI σ.order, vU σ.size, .slice ps.base (σ.n - j) ps.cap] :: arr 63 sS ⟨ps.base, σ.n - j, ps.cap⟩ (partsOf σ.size (gs.take (σ.n - j))) :: mems 5 (gs.take (σ.n - j)) σ.size σ.mem :: r) ?_ ?_
    · have hb : (if ps.cap = 0 then ps.base else ps.base.map fun x => x.add 0) = ps.base := base_zero
      show Sub (arr _ _ _ _ :: blk s _ [vU σ.base, vI σ.limit, vI σ.order, vU σ.size, .slice (if ps.cap = 0 then ps.base else ps.base.map fun x => x.add 0) (σ.n - j - 0) (ps.cap - 0)] :: _) _
      rw [hb]
      refine Sub.cons (.there .here) (Sub.cons .here (fun hh y => ?_))
      exact cons_part (star_mono (fun _ z => z) (fun _ z => star_mono (fun _ z => z) (fun _ _ => trivial) (star_swap z)) (star_assoc' (star_mono (fun _ z => mems_take _ z) (fun _ z => z) (part_cons y))))
    · exact Sub.ex (⟨ps.base, σ.n - j, ps.cap⟩, gs.take (σ.n - j)) (Sub.all (Sub.fact ⟨⟨hok.base, hok.order, by show σ.n - j ≤ σ.limit; omega, hok.limit, hok.top, hok.mem, hok.align⟩, by rw [List.length_take, hg]; exact Nat.min_eq_left (Nat.sub_le _ _)⟩ .refl))
  · refine ent_lt (fun c => h2 (.inl c)) (fun c => ?_)
    refine ent_space k fun ps gs hok hg hl back => ?_
    refine ent_load1 ps .here rfl ?_
    refine ent_gt (fun c2 => ?_) (fun c2 => ?_)
    · exact ent_sub (Sub.trans (back σ hok rfl rfl rfl rfl r) (Sub.untake k)) (h2 (.inr (by omega)))
    · exact ent_sub (Sub.trans (back σ hok rfl rfl rfl rfl r) (Sub.untake k)) (hkk () _ ⟨c, by omega⟩)

end Go.Proofs.Ytdmfnlcbfmahhaa
