/- The document's own buddy, its small functions; Configs; lists of words that are compared. -/
import Derived.Test.YtdmfnlcbfmahhaaGoodC
import Derived.Test.YtdmfnlcbfmahhaaNfLaw5
namespace Go.Proofs.Ytdmfnlcbfmahhaa
open Go Hl Bd
set_option maxRecDepth 100000

variable {e : Still} {l r : List HP} {X : World → Prop}

/-! ## Pointers that are compared -/

theorem equalIn_ptr {t el : TypeId} {p : Option Addr} {w : World} (ht : PR.underlying t = some (.pointer el)) (d : Nat) :
    (Op.equalIn (d + 1) t (.pointer p) (.pointer none)).run PR w = .ok p.isNone w := by
  unfold Op.equalIn
  rw [Sem.run_bind, run_underlying ht]
  cases p <;> rfl

theorem equal_ptr {t el : TypeId} {p : Option Addr} {w : World} (ht : PR.underlying t = some (.pointer el)) :
    (eqV t (.pointer p) (.pointer none)).run PR w = .ok (.bool p.isNone) w := by
  unfold eqV
  rw [Sem.run_bind]
  unfold Op.equal
  rw [show Op.maxDepth = (Op.maxDepth - 1) + 1 from rfl, equalIn_ptr ht]
  rfl

theorem ent_nilP {t el : TypeId} {a : Addr} {K : Bool → World → Prop} (ht : PR.underlying t = some (.pointer el)) (h : ent e l (K false)) :
    ent e l ((wpM PR).sem (eqV t (.pointer (some a)) (.pointer none)) sB K) := by
  intro w hw
  exact runsTo_of_run (v := .bool false) (w' := w) (equal_ptr ht) ⟨false, rfl, h w hw⟩

theorem ent_nilNil {t el : TypeId} {K : Bool → World → Prop} (ht : PR.underlying t = some (.pointer el)) (h : ent e l (K true)) :
    ent e l ((wpM PR).sem (eqV t (.pointer none) (.pointer none)) sB K) := by
  intro w hw
  exact runsTo_of_run (v := .bool true) (w' := w) (equal_ptr ht) ⟨true, rfl, h w hw⟩

/-! ## Configs -/

theorem mayRef_ct {x y z : Int} {K : Tup [sB] → World → Prop} {KP : List PanicEntry → World → Prop} (hx : 0 ≤ x) (hx2 : x < 18446744073709551616)
    (h1 : ∀ b n k : Nat, x = b → y = n → z = k → Conf b n k → ent e l (K (true, ()))) (h2 : ¬ isConf x y z → ent e l (K (false, ()))) :
    ent e l ((wpM PR).call 30 [.agg #[vU x, vI y, vI z]] [sB] K KP) := by
  refine ent_call (fn := Go.Proofs.Try.f30) (by kernel_rfl) ?_
  rw [nf30_eq]
  have out : ∀ {p : Prop}, (∀ b n k : Nat, x = b → y = n → z = k → Conf b n k → p) → ¬ p → ent e l (K (false, ())) := by
    intro p hp hn
    refine h2 ?_
    rintro ⟨b, n, k, e1, e2, e3, hc⟩
    exact hn (hp b n k e1 e2 e3 hc)
  refine ent_new fun a => ?_
  refine ent_joinP (A := Unit) (fun _ _ => 0 ≤ z ∧ z ≤ 8 ∧ 1 ≤ y ∧ y ≤ 64) (fun _ => blk a 24 [vU x, vI y, vI z] :: l) (fun _ q hp => ?_) (fun kk hkk => ?_)
  · obtain ⟨hz0, hz8, hy1, hy2⟩ := hp
    obtain ⟨k, rfl⟩ : ∃ k : Nat, z = k := ⟨z.toNat, by omega⟩
    obtain ⟨n, rfl⟩ : ∃ n : Nat, y = n := ⟨y.toNat, by omega⟩
    obtain ⟨b, rfl⟩ : ∃ b : Nat, x = b := ⟨x.toNat, by omega⟩
    refine ent_ld (n : Int) ?_
    refine ent_loop (S := Nat) (fun i => (((n * 2 ^ i : Nat) : Int), ((4096 * 2 ^ i : Nat) : Int), (i : Int), ())) (fun _ => blk a 24 [vU b, vI n, vI k] :: l) (fun i => i ≤ k) (fun i => k - i) 0 (by simp) (Nat.zero_le _) (fun _ y => y) ?_
    intro kk i hi hk
    have hpw := pow_le8 (show i ≤ 8 by omega)
    have hp0 : 0 < 2 ^ i := Nat.pow_pos (by omega)
    have hnp : n * 2 ^ i ≤ 64 * 256 := Nat.mul_le_mul (by omega) hpw
    refine ent_ld (k : Int) ?_
    refine ent_lt (fun c => ?_) (fun c => ?_)
    · have hik : i < k := by have c : (i : Int) < (k : Int) := c; omega
      have e1 : wI (((n * 2 ^ i : Nat) : Int) * 2) = ((n * 2 ^ (i + 1) : Nat) : Int) := by rw [wI_of (by omega) (by omega), Nat.pow_succ, ← Nat.mul_assoc]; omega
      have e2 : wU (((4096 * 2 ^ i : Nat) : Int) * 2) = ((4096 * 2 ^ (i + 1) : Nat) : Int) := by rw [wU_of (by omega) (by omega), Nat.pow_succ, ← Nat.mul_assoc]; omega
      have e3 : wI ((i : Int) + 1) = ((i + 1 : Nat) : Int) := by rw [wI_of (by omega) (by omega)]; omega
      show ent e _ (kk (wI (((n * 2 ^ i : Nat) : Int) * 2), wU (((4096 * 2 ^ i : Nat) : Int) * 2), wI ((i : Int) + 1), ()))
      rw [e1, e2, e3]
      exact hk (i + 1) hik (by omega)
    · obtain rfl : i = k := by have c : (k : Int) ≤ (i : Int) := c; omega
      have hall : 4096 * 2 ^ i * n = 4096 * (n * 2 ^ i) := by rw [Nat.mul_assoc, Nat.mul_comm (2 ^ i)]
      refine ent_joinP (A := Unit) (fun _ _ => n * 2 ^ i ≤ 1024 ∧ b ≠ 0 ∧ b % (4096 * 2 ^ i) = 0) (fun _ => blk a 24 [vU b, vI n, vI i] :: l) (fun _ q hp => ?_) (fun k11 hk11 => ?_)
      · obtain ⟨hp1, hp2, hp3⟩ := hp
        refine ent_ld (n : Int) ?_
        refine ent_ld (b : Int) ?_
        refine ent_le (fun c1 => ?_) (fun c1 => ent_drop (out (p := (b : Int) ≤ 9223372036854775808) (fun b' n' k' e1 e2 e3 hc => by have := hc.top; omega) (by omega)))
        refine ent_ld (b : Int) ?_
        have e1 : wU (((4096 * 2 ^ i : Nat) : Int) * wU (n : Int)) = ((4096 * 2 ^ i * n : Nat) : Int) := by rw [wU_nat (n := n) (by omega), ← Int.natCast_mul, wU_nat (by omega)]
        show ent e _ (K (decide (wU ((b : Int) + wU (((4096 * 2 ^ i : Nat) : Int) * wU (n : Int))) ≤ 9223372036854775808), ()))
        rw [e1, wU_of (by omega) (by omega)]
        refine ent_drop ?_
        by_cases hc : b + 4096 * 2 ^ i * n ≤ 9223372036854775808
        · rw [decide_eq_true (by omega)]
          exact h1 b n i rfl rfl rfl ⟨by omega, by omega, by omega, hp1, hp2, hp3, hc⟩
        · rw [decide_eq_false (by omega)]
          refine out (p := b + 4096 * 2 ^ i * n ≤ 9223372036854775808) (fun b' n' k' e1 e2 e3 hc => ?_) hc
          obtain rfl : b = b' := by omega
          obtain rfl : n = n' := by omega
          obtain rfl : i = k' := by omega
          exact hc.top
      · refine ent_gt (fun c1 => ent_drop (out (p := n * 2 ^ i ≤ 1024) (fun b' n' k' e1 e2 e3 hc => ?_) ?_)) (fun c1 => ?_)
        · obtain rfl : n = n' := by omega
          obtain rfl : i = k' := by omega
          exact hc.pages
        · have c1 : (1024 : Int) < ((n * 2 ^ i : Nat) : Int) := c1
          omega
        · refine ent_ld (b : Int) ?_
          refine ent_eq (fun c2 => ent_drop (out (p := (b : Int) ≠ 0) (fun b' n' k' e1 e2 e3 hc => by have := hc.base; omega) (fun h => h c2))) (fun c2 => ?_)
          refine ent_ld (b : Int) ?_
          refine ent_gn (show ((4096 * 2 ^ i : Nat) : Int) ≠ 0 by omega) ?_
          have e5 : (b : Int).tmod ((4096 * 2 ^ i : Nat) : Int) = ((b % (4096 * 2 ^ i) : Nat) : Int) := tmod_nat _ _
          show ent e _ (bif (b : Int).tmod ((4096 * 2 ^ i : Nat) : Int) != 0 then _ else _)
          rw [e5]
          refine ent_ne (fun c3 => ent_drop (out (p := b % (4096 * 2 ^ i) = 0) (fun b' n' k' e1 e2 e3 hc => ?_) (by omega))) (fun c3 => ?_)
          · obtain rfl : b = b' := by omega
            obtain rfl : i = k' := by omega
            exact hc.align
          · exact hk11 () _ ⟨by have c1 : ((n * 2 ^ i : Nat) : Int) ≤ 1024 := c1; omega, by omega, by omega⟩
  · refine ent_ld z ?_
    refine ent_lt (fun c => ent_drop (out (p := 0 ≤ z) (fun b n k e1 e2 e3 hc => by omega) (by omega))) (fun c => ?_)
    refine ent_ld z ?_
    refine ent_gt (fun c2 => ent_drop (out (p := z ≤ 8) (fun b n k e1 e2 e3 hc => by have := hc.order; omega) (by omega))) (fun c2 => ?_)
    refine ent_ld y ?_
    refine ent_lt (fun c3 => ent_drop (out (p := 1 ≤ y) (fun b n k e1 e2 e3 hc => by have := hc.one; omega) (by omega))) (fun c3 => ?_)
    refine ent_ld y ?_
    refine ent_gt (fun c4 => ent_drop (out (p := y ≤ 64) (fun b n k e1 e2 e3 hc => by have := hc.limit; omega) (by omega))) (fun c4 => ?_)
    exact hkk () _ ⟨c, c2, c3, c4⟩

theorem usual_ct {x y z : Int} {K : Tup [.agg [kU, kI, kI]] → World → Prop} {KP : List PanicEntry → World → Prop} (hx : 0 ≤ x) (hx2 : x < 18446744073709551616)
    (h : ∀ b n k : Nat, Conf b n k → (isConf x y z → x = b ∧ y = n ∧ z = k) → ent e l (K (((b : Int), (n : Int), (k : Int), ()), ()))) :
    ent e l ((wpM PR).call 72 [.agg #[vU x, vI y, vI z]] [.agg [kU, kI, kI]] K KP) := by
  refine ent_call (fn := Go.Proofs.Try.f72) (by kernel_rfl) ?_
  rw [nf72_eq]
  refine ent_new fun x1 => ?_
  refine ent_new fun x2 => ?_
  refine ent_ldA (x, y, z, ()) ?_
  refine mayRef_ct hx hx2 (fun b n k e1 e2 e3 hc => ?_) (fun hn => ?_)
  · subst e1 e2 e3
    refine ent_false ?_
    refine ent_ldA ((b : Int), (n : Int), (k : Int), ()) ?_
    refine ent_st ?_
    refine ent_ldA ((b : Int), (n : Int), (k : Int), ()) ?_
    exact ent_sub (by repeat (first | exact Sub.refl | refine Sub.cons (by with_reducible first | assumption | ((repeat (first | exact .here | apply Take.there)); done)) ?_ | refine Sub.drop ?_)) (h b n k hc fun _ => ⟨rfl, rfl, rfl⟩)
  · refine ent_true ?_
    refine ent_st ?_
    refine ent_ldA ((65536 : Int), (2 : Int), (2 : Int), ()) ?_
    exact ent_sub (by repeat (first | exact Sub.refl | refine Sub.cons (by with_reducible first | assumption | ((repeat (first | exact .here | apply Take.there)); done)) ?_ | refine Sub.drop ?_)) (h 65536 2 2 ⟨by omega, by omega, by omega, by decide, by omega, by decide, by decide⟩ fun hc => absurd hc hn)

/-! ## Lists of words that are compared -/

theorem ints_ct {q1 q2 : Sl} {xs ys : List Int} {K : Tup [sB] → World → Prop} {KP : List PanicEntry → World → Prop} {r1 r2 : List HP} (hlen : xs.length < 4611686018427387904)
    (h : ∀ t : Bool, (t = true ↔ xs = ys) → ent e l (K (t, ()))) (k1 : Take l (arr 22 sU q1 xs) r1 := by with_reducible first | assumption | ((repeat (first | exact .here | apply Take.there)); done)) (k2 : Take l (arr 22 sU q2 ys) r2 := by with_reducible first | assumption | ((repeat (first | exact .here | apply Take.there)); done)) :
    ent e l ((wpM PR).call 43 [.slice q1.base q1.len q1.cap, .slice q2.base q2.len q2.cap] [sB] K KP) := by
  refine ent_call (fn := Go.Proofs.Try.f43) (by kernel_rfl) ?_
  rw [nf43_eq]
  refine ent_len k1 fun h1 => ?_
  refine ent_len k2 fun h2 => ?_
  refine ent_ne (fun c => ?_) (fun c => ?_)
  · exact h false ⟨fun e => Bool.noConfusion e, fun e => by rw [h1, h2, e] at c; exact absurd rfl c⟩
  · have hl : xs.length = ys.length := by omega
    refine ent_loop (S := Nat) (fun i => (false, (i : Int), ())) (fun _ => l) (fun i => i ≤ xs.length ∧ xs.take i = ys.take i) (fun i => xs.length - i) 0 rfl ⟨Nat.zero_le _, rfl⟩ (fun _ y => y) ?_
    rintro kk i ⟨hi, heq⟩ hk
    refine ent_lt (fun c2 => ?_) (fun c2 => ?_)
    · have hix : i < xs.length := by have c2 : (i : Int) < (q1.len : Int) := c2; omega
      refine ent_draw ?_
      refine ent_at (sh := sU) i xs[i] rfl (List.getElem?_eq_getElem hix) ?_ k1
      refine ent_at (sh := sU) i (ys[i]'(by omega)) rfl (List.getElem?_eq_getElem (by omega)) ?_ k2
      refine ent_ne (fun c3 => ?_) (fun c3 => ?_)
      · exact h false ⟨fun e => Bool.noConfusion e, fun e => by subst e; exact absurd rfl c3⟩
      · have c3 : xs[i] = ys[i]'(by omega) := c3
        rw [show wI ((i : Int) + 1) = ((i + 1 : Nat) : Int) by rw [wI_of (by omega) (by omega)]; omega]
        refine hk (i + 1) ⟨by omega, ?_⟩ (by omega)
        rw [List.take_add_one, List.take_add_one, heq, List.getElem?_eq_getElem hix, List.getElem?_eq_getElem (show i < ys.length by omega), c3]
    · have hix : i = xs.length := by have c2 : (q1.len : Int) ≤ (i : Int) := c2; omega
      subst hix
      refine h true ⟨fun _ => ?_, fun _ => rfl⟩
      rw [List.take_length] at heq
      rw [heq, hl, List.take_length]

/-! ## The document's buddy -/

abbrev sRun : Shp := .agg [kI, kI]
abbrev sRef : Shp := .agg [kI, kI, .slice, .slice]
abbrev runOf (v : Nat × Nat) : sRun.T := ((v.1 : Int), (v.2 : Int), ())

/-- What the document says: free blocks, order by order; live ones. -/
def isFree (O : Nat) (fs : Sl) (free : Nat → List Nat) : HP := ex fun q : Nat → Sl => all [
  arr 129 sS fs (tab (O + 1) q), each (O + 1) fun k => arr 3 sI (q k) ((free k).map fun p : Nat => (p : Int))]

abbrev isLiveL (ls : Sl) (live : List (Nat × Nat)) : HP := arr 214 sRun ls (live.map runOf)

theorem run_elem : Elem PR 34 214 sRun (0, 0, ()) 16 := .of (by kernel_rfl) (by kernel_rfl)
theorem ints_elem : Elem PR 33 129 sS ⟨none, 0, 0⟩ 24 := .of (by kernel_rfl) (by kernel_rfl)

theorem newRef_ct {x : Int} {K : Tup [sRef] → World → Prop} {KP : List PanicEntry → World → Prop} (O : Nat) (hx : x = O) (hO : O ≤ 8)
    (h : ∀ fs : Sl, ent e (isFree O fs (fun _ => []) :: isLiveL ⟨none, 0, 0⟩ [] :: l) (K (((O : Int), 0, fs, ⟨none, 0, 0⟩, ()), ()))) :
    ent e l ((wpM PR).call 76 [vI x] [sRef] K KP) := by
  subst hx
  refine ent_call (fn := Go.Proofs.Try.f76) (by kernel_rfl) ?_
  rw [nf76_eq]
  refine ent_new fun x1 => ?_
  refine ent_new fun x2 => ?_
  refine ent_st ?_
  refine ent_blk [vI (O : Int), vI 0, .slice none 0 0, .slice none 0 0] ?_
  refine ent_loop (S := Nat × Sl) (fun j => ((j.1 : Int), ())) (fun j => blk x2 36 [vI (O : Int), vI 0, .slice j.2.base j.2.len j.2.cap, .slice none 0 0] :: arr 129 sS j.2 (tab j.1 fun _ => (⟨none, 0, 0⟩ : Sl)) ::
    each j.1 (fun _ => arr 3 sI ⟨none, 0, 0⟩ []) :: blk x1 36 [vI 0, vI 0, .slice none 0 0, .slice none 0 0] :: l) (fun j => j.1 ≤ O + 1) (fun j => O + 1 - j.1) (0, ⟨none, 0, 0⟩) rfl (Nat.zero_le _) ?_ ?_
  · intro hh y
    exact star_mono (fun _ z => z) (fun _ z => emp_star_arr (emp_star_each z)) y
  · rintro kk ⟨j, s⟩ hj hk
    simp only at hj hk ⊢
    refine ent_le (fun c => ?_) (fun c => ?_)
    · have hjO : j ≤ O := by have c : (j : Int) ≤ (O : Int) := c; omega
      refine ent_ld s ?_
      refine ent_new fun x6 => ?_
      refine ent_append1 (xs := tab j fun _ => (⟨none, 0, 0⟩ : Sl)) ints_elem rfl (by decide) ⟨none, 0, 0⟩ (.there (.there .here)) .here rfl (by rw [tab_len]; omega) (by rw [tab_len]; omega) fun s8 hs8 => ?_
      rw [← tab_succ (f := fun _ => (⟨none, 0, 0⟩ : Sl))]
      refine ent_st ?_
      refine ent_blk [vI (O : Int), vI 0, .slice s8.base s8.len s8.cap, .slice none 0 0] ?_
      rw [show wI ((j : Int) + 1) = ((j + 1 : Nat) : Int) by rw [wI_of (by omega) (by omega)]; omega]
      refine ent_sub ?_ (hk (j + 1, s8) (by simp only; omega) (by simp only; omega))
      exact Sub.cons (by with_reducible first | assumption | ((repeat (first | exact .here | apply Take.there)); done)) (Sub.cons (by with_reducible first | assumption | ((repeat (first | exact .here | apply Take.there)); done)) (Sub.each_snoc (Sub.arr_nil (by repeat (first | exact Sub.refl | refine Sub.cons (by with_reducible first | assumption | ((repeat (first | exact .here | apply Take.there)); done)) ?_ | refine Sub.drop ?_)))))
    · obtain rfl : j = O + 1 := by have c : (O : Int) < (j : Int) := c; omega
      refine ent_ldA ((O : Int), (0 : Int), s, ⟨none, 0, 0⟩, ()) ?_
      refine ent_st ?_
      refine ent_ldA ((O : Int), (0 : Int), s, ⟨none, 0, 0⟩, ()) ?_
      refine ent_sub ?_ (h s)
      refine Sub.trans (b := arr 129 sS s (tab (O + 1) fun _ => (⟨none, 0, 0⟩ : Sl)) :: each (O + 1) (fun _ => arr 3 sI ⟨none, 0, 0⟩ []) :: l) (by repeat (first | exact Sub.refl | refine Sub.cons (by with_reducible first | assumption | ((repeat (first | exact .here | apply Take.there)); done)) ?_ | refine Sub.drop ?_)) ?_
      refine Sub.ex (fun _ => ⟨none, 0, 0⟩) (Sub.all ?_)
      exact Sub.cons .here (Sub.cons .here (Sub.arr_nil .refl))

theorem livesRef_ct {x0 x1 y z : Int} {fs ls : Sl} {live : List (Nat × Nat)} {K : Tup [sRef] → World → Prop} {KP : List PanicEntry → World → Prop} (p o : Nat) (hy : y = p) (hz : z = o) (hlen : live.length ≤ 100000)
    (h : ∀ ls' : Sl, ent e (isLiveL ls' (live ++ [(p, o)]) :: r) (K ((x0, x1, fs, ls', ()), ()))) (k : Take l (isLiveL ls live) r := by with_reducible first | assumption | ((repeat (first | exact .here | apply Take.there)); done)) :
    ent e l ((wpM PR).call 122 [.agg #[vI x0, vI x1, .slice fs.base fs.len fs.cap, .slice ls.base ls.len ls.cap], vI y, vI z] [sRef] K KP) := by
  subst hy hz
  refine ent_call (fn := Go.Proofs.Try.f122) (by kernel_rfl) ?_
  rw [nf122_eq]
  refine ent_new fun b1 => ?_
  refine ent_new fun b2 => ?_
  refine ent_sub (l' := blk b1 36 [vI x0, vI x1, .slice fs.base fs.len fs.cap, .slice ls.base ls.len ls.cap] :: isLiveL ls live :: blk b2 36 [vI 0, vI 0, .slice none 0 0, .slice none 0 0] :: r) (Sub.cons (by with_reducible first | assumption | ((repeat (first | exact .here | apply Take.there)); done)) (Sub.cons (.there k) (Sub.cons .here .refl))) ?_
  refine ent_len (xs := live.map runOf) (.there .here) fun hl => ?_
  rw [List.length_map] at hl
  refine ent_loop (S := Nat × Sl) (fun j => (⟨j.2.base, j.2.len, j.2.cap⟩, (j.1 : Int), ())) (fun j => arr 214 sRun j.2 ((live.take j.1).map runOf) :: blk b1 36 [vI x0, vI x1, .slice fs.base fs.len fs.cap, .slice ls.base ls.len ls.cap] :: isLiveL ls live :: blk b2 36 [vI 0, vI 0, .slice none 0 0, .slice none 0 0] :: r)
    (fun j => j.1 ≤ live.length) (fun j => live.length - j.1) (0, ⟨none, 0, 0⟩) rfl (Nat.zero_le _) (fun _ y => emp_star_arr y) ?_
  rintro kk ⟨j, q⟩ hj hk
  simp only at hj hk ⊢
  refine ent_ld ls ?_
  refine ent_lt (fun c => ?_) (fun c => ?_)
  · have hjl : j < live.length := by have c : (j : Int) < (ls.len : Int) := c; omega
    refine ent_ld ls ?_
    refine ent_at (sh := sRun) (xs := live.map runOf) j (runOf live[j]) rfl (by rw [List.getElem?_map, List.getElem?_eq_getElem hjl]; rfl) ?_ (.there (.there .here))
    refine ent_new fun x9 => ?_
    refine ent_append1 (xs := (live.take j).map runOf) run_elem rfl (by decide) (runOf live[j]) (.there .here) .here rfl (by rw [List.length_map, List.length_take]; omega) (by rw [List.length_map, List.length_take]; omega) fun s8 hs8 => ?_
    have ht : (live.take j).map runOf ++ [runOf live[j]] = (live.take (j + 1)).map runOf := by rw [List.take_add_one, List.getElem?_eq_getElem hjl, List.map_append]; rfl
    rw [ht, show wI ((j : Int) + 1) = ((j + 1 : Nat) : Int) by rw [wI_of (by omega) (by omega)]; omega]
    exact hk (j + 1, s8) (by simp only; omega) (by simp only; omega)
  · obtain rfl : j = live.length := by have c : (ls.len : Int) ≤ (j : Int) := c; omega
    rw [List.take_length]
    refine ent_new fun x11 => ?_
    refine ent_append1 (xs := live.map runOf) run_elem rfl (by decide) (runOf (p, o)) (.there .here) .here rfl (by rw [List.length_map]; omega) (by rw [List.length_map]; omega) fun s12 hs12 => ?_
    refine ent_st ?_
    refine ent_ldA (x0, x1, fs, s12, ()) ?_
    refine ent_st ?_
    refine ent_ldA (x0, x1, fs, s12, ()) ?_
    have ht : live.map runOf ++ [runOf (p, o)] = (live ++ [(p, o)]).map runOf := by rw [List.map_append]; rfl
    rw [ht]
    exact ent_sub (by repeat (first | exact Sub.refl | refine Sub.cons (by with_reducible first | assumption | ((repeat (first | exact .here | apply Take.there)); done)) ?_ | refine Sub.drop ?_)) (h s12)

theorem diesRef_ct {x0 x1 y : Int} {fs ls : Sl} {live : List (Nat × Nat)} {K : Tup [sRef] → World → Prop} {KP : List PanicEntry → World → Prop} (p : Nat) (hy : y = p) (hlen : live.length ≤ 100000)
    (h : ∀ ls' : Sl, ent e (isLiveL ls' (live.filter (·.1 ≠ p)) :: r) (K ((x0, x1, fs, ls', ()), ()))) (k : Take l (isLiveL ls live) r := by with_reducible first | assumption | ((repeat (first | exact .here | apply Take.there)); done)) :
    ent e l ((wpM PR).call 139 [.agg #[vI x0, vI x1, .slice fs.base fs.len fs.cap, .slice ls.base ls.len ls.cap], vI y] [sRef] K KP) := by
  subst hy
  refine ent_call (fn := Go.Proofs.Try.f139) (by kernel_rfl) ?_
  rw [nf139_eq]
  refine ent_new fun b1 => ?_
  refine ent_new fun b2 => ?_
  refine ent_sub (l' := blk b1 36 [vI x0, vI x1, .slice fs.base fs.len fs.cap, .slice ls.base ls.len ls.cap] :: isLiveL ls live :: blk b2 36 [vI 0, vI 0, .slice none 0 0, .slice none 0 0] :: r) (Sub.cons (by with_reducible first | assumption | ((repeat (first | exact .here | apply Take.there)); done)) (Sub.cons (.there k) (Sub.cons .here .refl))) ?_
  refine ent_len (xs := live.map runOf) (.there .here) fun hl => ?_
  rw [List.length_map] at hl
  refine ent_loop (S := Nat × Sl) (fun j => (⟨j.2.base, j.2.len, j.2.cap⟩, (j.1 : Int), ())) (fun j => arr 214 sRun j.2 (((live.take j.1).filter (·.1 ≠ p)).map runOf) :: blk b1 36 [vI x0, vI x1, .slice fs.base fs.len fs.cap, .slice ls.base ls.len ls.cap] :: isLiveL ls live :: blk b2 36 [vI 0, vI 0, .slice none 0 0, .slice none 0 0] :: r)
    (fun j => j.1 ≤ live.length) (fun j => live.length - j.1) (0, ⟨none, 0, 0⟩) rfl (Nat.zero_le _) (fun _ y => emp_star_arr y) ?_
  rintro kk ⟨j, q⟩ hj hk
  simp only at hj hk ⊢
  refine ent_ld ls ?_
  refine ent_lt (fun c => ?_) (fun c => ?_)
  · have hjl : j < live.length := by have c : (j : Int) < (ls.len : Int) := c; omega
    have hlen2 : ((live.take j).filter (·.1 ≠ p)).length ≤ 100000 := by
      have := List.length_filter_le (fun v : Nat × Nat => decide (v.1 ≠ p)) (live.take j)
      rw [List.length_take] at this; omega
    have hnext : wI ((j : Int) + 1) = ((j + 1 : Nat) : Int) := by rw [wI_of (by omega) (by omega)]; omega
    refine ent_joinP (A := Sl) (fun q' x => x = (q', ())) (fun q' => arr 214 sRun q' (((live.take (j + 1)).filter (·.1 ≠ p)).map runOf) :: blk b1 36 [vI x0, vI x1, .slice fs.base fs.len fs.cap, .slice ls.base ls.len ls.cap] :: isLiveL ls live :: blk b2 36 [vI 0, vI 0, .slice none 0 0, .slice none 0 0] :: r) (fun q' x hx => ?_) (fun k7 hk7 => ?_)
    · subst hx
      rw [hnext]
      exact hk (j + 1, q') (by simp only; omega) (by simp only; omega)
    · have hstep : (live.take (j + 1)).filter (fun v : Nat × Nat => decide (v.1 ≠ p)) = (live.take j).filter (fun v : Nat × Nat => decide (v.1 ≠ p)) ++ [live[j]].filter (fun v : Nat × Nat => decide (v.1 ≠ p)) := by
        rw [List.take_add_one, List.getElem?_eq_getElem hjl, List.filter_append]; rfl
      rw [hstep] at hk7
      refine ent_ld ls ?_
      refine ent_fld (ks := [kI, kI]) (xs := live.map runOf) j 0 (runOf live[j]) ((live[j].1 : Nat) : Int) rfl (by rw [List.getElem?_map, List.getElem?_eq_getElem hjl]; rfl) ?_ (.there (.there .here))
      refine ent_ne (fun c7 => ?_) (fun c7 => ?_)
      · have c7 : ((live[j].1 : Nat) : Int) ≠ (p : Int) := c7
        refine ent_ld ls ?_
        refine ent_at (sh := sRun) (xs := live.map runOf) j (runOf live[j]) rfl (by rw [List.getElem?_map, List.getElem?_eq_getElem hjl]; rfl) ?_ (.there (.there .here))
        refine ent_new fun x9 => ?_
        refine ent_append1 (xs := ((live.take j).filter (·.1 ≠ p)).map runOf) run_elem rfl (by decide) (runOf live[j]) (.there .here) .here rfl (by rw [List.length_map]; omega) (by rw [List.length_map]; omega) fun s8 hs8 => ?_
        refine ent_sub ?_ (hk7 s8 _ rfl)
        have : [live[j]].filter (fun v : Nat × Nat => decide (v.1 ≠ p)) = [live[j]] := by rw [List.filter_cons_of_pos]; rfl; simp; omega
        rw [this, List.map_append]
        exact .refl
      · have c7 : ((live[j].1 : Nat) : Int) = (p : Int) := c7
        refine ent_sub ?_ (hk7 q _ rfl)
        have : [live[j]].filter (fun v : Nat × Nat => decide (v.1 ≠ p)) = [] := by rw [List.filter_cons_of_neg]; rfl; simp; omega
        rw [this, List.append_nil]
        exact .refl
  · obtain rfl : j = live.length := by have c : (ls.len : Int) ≤ (j : Int) := c; omega
    rw [List.take_length]
    refine ent_st ?_
    refine ent_ldA (x0, x1, fs, q, ()) ?_
    refine ent_st ?_
    refine ent_ldA (x0, x1, fs, q, ()) ?_
    exact ent_sub (by repeat (first | exact Sub.refl | refine Sub.cons (by with_reducible first | assumption | ((repeat (first | exact .here | apply Take.there)); done)) ?_ | refine Sub.drop ?_)) (h q)

/-! ## Top, Come, Go -/

theorem shl_eq {k : Nat} (h : k ≤ 12) : wI (1 * 2 ^ min (wU (k : Int)).toNat 64) = ((2 ^ k : Nat) : Int) := by
  have hp : 2 ^ k ≤ 4096 := Nat.pow_le_pow_right (n := 2) (by omega) h
  rw [wU_nat (by omega), Int.toNat_natCast, Nat.min_eq_left (by omega), Int.one_mul, show (2 : Int) ^ k = ((2 ^ k : Nat) : Int) from (Int.natCast_pow 2 k).symm]
  generalize 2 ^ k = w at hp ⊢
  rw [wI_of (by omega) (by omega)]

theorem wI_add {a b : Nat} (h : a + b < 9223372036854775808) : wI ((a : Int) + (b : Int)) = ((a + b : Nat) : Int) := by rw [wI_of (by omega) (by omega)]; omega
theorem wI_sub {a b : Nat} (h : b ≤ a) (h2 : a < 9223372036854775808) : wI ((a : Int) - (b : Int)) = ((a - b : Nat) : Int) := by rw [wI_of (by omega) (by omega)]; omega
theorem wI_succ {a : Nat} (h : a + 1 < 9223372036854775808) : wI ((a : Int) + 1) = ((a + 1 : Nat) : Int) := by rw [wI_of (by omega) (by omega)]; omega

theorem topRef_ct {fs ls : Sl} {K : Tup [sI] → World → Prop} {KP : List PanicEntry → World → Prop} (O n : Nat) (hO : O ≤ 8) (hn : n ≤ 100000) (hw : n = 0 ∨ 2 ^ O ≤ n)
    (h1 : n = 0 → ent e l (K (-1, ()))) (h2 : 0 < n → ent e l (K (((n - 2 ^ O : Nat) : Int), ()))) :
    ent e l ((wpM PR).call 138 [.agg #[vI (O : Int), vI (n : Int), .slice fs.base fs.len fs.cap, .slice ls.base ls.len ls.cap]] [sI] K KP) := by
  refine ent_call (fn := Go.Proofs.Try.f138) (by kernel_rfl) ?_
  rw [nf138_eq]
  refine ent_new fun b1 => ?_
  refine ent_ld (n : Int) ?_
  refine ent_eq (fun c => ?_) (fun c => ?_)
  · have c : (n : Int) = 0 := c
    exact ent_drop (h1 (by omega))
  · have c : ¬ (n : Int) = 0 := c
    refine ent_ld (n : Int) ?_
    refine ent_ld (O : Int) ?_
    refine ent_g0 (by rw [wU_nat (by omega)]; omega) ?_
    show ent e _ (K (wI ((n : Int) - wI (1 * 2 ^ min (wU (O : Int)).toNat 64)), ()))
    have hp : 2 ^ O ≤ n := by omega
    rw [shl_eq (by omega), wI_sub hp (by omega)]
    exact ent_drop (h2 (by omega))

theorem comeRef_ct {fs ls : Sl} {live : List (Nat × Nat)} {K : Tup [sRef] → World → Prop} {KP : List PanicEntry → World → Prop} (O n : Nat) (hO : O ≤ 8) (hn : n ≤ 100000) (hlen : live.length ≤ 100000)
    (h : ∀ ls' : Sl, ent e (isLiveL ls' (live ++ [(n, O)]) :: r) (K (((O : Int), ((n + 2 ^ O : Nat) : Int), fs, ls', ()), ()))) (k : Take l (isLiveL ls live) r := by with_reducible first | assumption | ((repeat (first | exact .here | apply Take.there)); done)) :
    ent e l ((wpM PR).call 78 [.agg #[vI (O : Int), vI (n : Int), .slice fs.base fs.len fs.cap, .slice ls.base ls.len ls.cap]] [sRef] K KP) := by
  refine ent_call (fn := Go.Proofs.Try.f78) (by kernel_rfl) ?_
  rw [nf78_eq]
  have hp : 2 ^ O ≤ 4096 := Nat.pow_le_pow_right (n := 2) (by omega) (show O ≤ 12 by omega)
  refine ent_new fun b1 => ?_
  refine ent_new fun b2 => ?_
  refine ent_ld (n : Int) ?_
  refine ent_ld (O : Int) ?_
  refine ent_g0 (by rw [wU_nat (by omega)]; omega) ?_
  rw [shl_eq (by omega), wI_add (by omega)]
  refine ent_st ?_
  refine ent_ldA ((O : Int), ((n + 2 ^ O : Nat) : Int), fs, ls, ()) ?_
  refine ent_ld (O : Int) ?_
  refine livesRef_ct n O rfl rfl hlen (fun ls' => ?_) (.there (.there k))
  refine ent_st ?_
  refine ent_ldA ((O : Int), ((n + 2 ^ O : Nat) : Int), fs, ls', ()) ?_
  exact ent_sub (by repeat (first | exact Sub.refl | refine Sub.cons (by with_reducible first | assumption | ((repeat (first | exact .here | apply Take.there)); done)) ?_ | refine Sub.drop ?_)) (h ls')

theorem goRef_ct {fs ls : Sl} {live : List (Nat × Nat)} {K : Tup [sRef] → World → Prop} {KP : List PanicEntry → World → Prop} (O n : Nat) (hO : O ≤ 8) (hn : n ≤ 100000) (h0 : 0 < n) (hw : 2 ^ O ≤ n) (hlen : live.length ≤ 100000)
    (h : ∀ ls' : Sl, ent e (isLiveL ls' (live.filter (·.1 ≠ n - 2 ^ O)) :: r) (K (((O : Int), ((n - 2 ^ O : Nat) : Int), fs, ls', ()), ()))) (k : Take l (isLiveL ls live) r := by with_reducible first | assumption | ((repeat (first | exact .here | apply Take.there)); done)) :
    ent e l ((wpM PR).call 123 [.agg #[vI (O : Int), vI (n : Int), .slice fs.base fs.len fs.cap, .slice ls.base ls.len ls.cap]] [sRef] K KP) := by
  refine ent_call (fn := Go.Proofs.Try.f123) (by kernel_rfl) ?_
  rw [nf123_eq]
  refine ent_new fun b1 => ?_
  refine ent_new fun b2 => ?_
  refine ent_ldA ((O : Int), (n : Int), fs, ls, ()) ?_
  refine topRef_ct O n hO hn (.inr hw) (fun c => by omega) (fun _ => ?_)
  refine ent_ldA ((O : Int), (n : Int), fs, ls, ()) ?_
  refine diesRef_ct (n - 2 ^ O) rfl hlen (fun ls' => ?_) (.there (.there k))
  refine ent_st ?_
  refine ent_st ?_
  refine ent_ldA ((O : Int), ((n - 2 ^ O : Nat) : Int), fs, ls', ()) ?_
  refine ent_st ?_
  refine ent_ldA ((O : Int), ((n - 2 ^ O : Nat) : Int), fs, ls', ()) ?_
  exact ent_sub (by repeat (first | exact Sub.refl | refine Sub.cons (by with_reducible first | assumption | ((repeat (first | exact .here | apply Take.there)); done)) ?_ | refine Sub.drop ?_)) (h ls')

end Go.Proofs.Ytdmfnlcbfmahhaa
