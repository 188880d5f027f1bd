/- Tables: slices whose elements are told by a function; parts, one for each number. -/
import Derived.Test.YtdmfnlcbfmahhaaHlMem
namespace Go.Proofs.Ytdmfnlcbfmahhaa
namespace Hl
open Go

variable {e : Still} {l r : List HP} {P : Program}

/-! ## Tables -/

def tab {A : Type} (n : Nat) (f : Nat → A) : List A := (List.range n).map f

def set1 {A : Type} (f : Nat → A) (i : Nat) (x : A) : Nat → A := fun j => if j = i then x else f j

theorem tab_len {A : Type} {n : Nat} {f : Nat → A} : (tab n f).length = n := by simp [tab]
theorem tab_get {A : Type} {n i : Nat} {f : Nat → A} (h : i < n) : (tab n f)[i]? = some (f i) := by simp [tab, h]
theorem tab_congr {A : Type} {n : Nat} {f g : Nat → A} (h : ∀ i, i < n → f i = g i) : tab n f = tab n g := by
  unfold tab; exact List.map_congr_left fun i hi => h i (List.mem_range.1 hi)
theorem set1_same {A : Type} {f : Nat → A} {i : Nat} {x : A} : set1 f i x i = x := by simp [set1]
theorem set1_other {A : Type} {f : Nat → A} {i j : Nat} {x : A} (h : j ≠ i) : set1 f i x j = f j := by simp [set1, h]
theorem tab_set {A : Type} {n i : Nat} {f : Nat → A} {x : A} : (tab n f).set i x = tab n (set1 f i x) := by
  apply List.ext_getElem?
  intro j
  rw [List.getElem?_set]
  by_cases hj : j < n
  · rw [tab_get hj, tab_get hj, tab_len]
    by_cases h : i = j
    · subst h; rw [if_pos rfl, if_pos hj, set1_same]
    · rw [if_neg h, set1_other (fun e => h e.symm)]
  · rw [List.getElem?_eq_none (l := tab n (set1 f i x)) (by rw [tab_len]; omega), List.getElem?_eq_none (l := tab n f) (by rw [tab_len]; omega)]
    split
    · rw [if_neg (by rw [tab_len]; omega)]
    · rfl
theorem tab_zero {A : Type} {f : Nat → A} : tab 0 f = [] := rfl
theorem tab_snoc {A : Type} {n : Nat} {f : Nat → A} {x : A} : tab n f ++ [x] = tab (n + 1) (set1 f n x) := by
  unfold tab
  rw [List.range_succ, List.map_append]
  congr 1
  · exact List.map_congr_left fun i hi => by rw [set1_other]; have := List.mem_range.1 hi; omega
  · simp [set1_same]
theorem tab_succ {A : Type} {n : Nat} {f : Nat → A} : tab (n + 1) f = tab n f ++ [f n] := by
  unfold tab
  rw [List.range_succ, List.map_append]; rfl
theorem tab_append {A : Type} {n m : Nat} {f g : Nat → A} : tab n f ++ tab m g = tab (n + m) (fun i => if i < n then f i else g (i - n)) := by
  apply List.ext_getElem?
  intro j
  by_cases hj : j < n
  · rw [List.getElem?_append_left (by rw [tab_len]; exact hj), tab_get hj, tab_get (by omega), if_pos hj]
  · rw [List.getElem?_append_right (by rw [tab_len]; omega), tab_len]
    by_cases h2 : j < n + m
    · rw [tab_get (by omega), tab_get h2, if_neg hj]
    · rw [List.getElem?_eq_none (by rw [tab_len]; omega), List.getElem?_eq_none (by rw [tab_len]; omega)]
theorem tab_take {A : Type} {n m : Nat} {f : Nat → A} (h : m ≤ n) : (tab n f).take m = tab m f := by
  apply List.ext_getElem?
  intro j
  rw [List.getElem?_take]
  split
  · rename_i hj; rw [tab_get (by omega), tab_get hj]
  · rename_i hj; rw [List.getElem?_eq_none (by rw [tab_len]; omega)]
theorem tab_replicate {A : Type} {n : Nat} {x : A} : List.replicate n x = tab n fun _ => x := by
  apply List.ext_getElem?
  intro j
  by_cases hj : j < n
  · rw [tab_get hj]; simp [hj]
  · rw [List.getElem?_eq_none (by simp; omega), List.getElem?_eq_none (by rw [tab_len]; omega)]
theorem tab_map {A B : Type} {n : Nat} {f : Nat → A} {g : A → B} : (tab n f).map g = tab n fun i => g (f i) := by simp [tab, Function.comp_def]
theorem tab_of_list {A : Type} (xs : List A) (x0 : A) : xs = tab xs.length fun i => xs.getD i x0 := by
  apply List.ext_getElem?
  intro j
  by_cases hj : j < xs.length
  · rw [tab_get hj]; simp [List.getD_eq_getElem?_getD, List.getElem?_eq_getElem hj]
  · rw [List.getElem?_eq_none (by omega), List.getElem?_eq_none (by rw [tab_len]; omega)]

/-! ## What is at hand -/

theorem ent_len {t : TypeId} {sh : Shp} {s : Sl} {xs : List sh.T} {X : World → Prop} (k : Take l (arr t sh s xs) r) (h : s.len = xs.length → ent e l X) : ent e l X := by
  intro w hw
  refine h ?_ w hw
  obtain ⟨a, b, s', hs', _⟩ := k.part hw.heap
  rcases hs' with ⟨rfl, rfl, _⟩ | ⟨_, _, _, e2, _⟩
  · rfl
  · exact e2

theorem ent_cap {t : TypeId} {sh : Shp} {s : Sl} {xs : List sh.T} {X : World → Prop} (k : Take l (arr t sh s xs) r) (h : s.len = xs.length → s.len ≤ s.cap → ent e l X) : ent e l X := by
  intro w hw
  have : s.len = xs.length ∧ s.len ≤ s.cap := by
    obtain ⟨a, b, s', hs', _⟩ := k.part hw.heap
    rcases hs' with ⟨rfl, rfl, _⟩ | ⟨_, _, _, e2, e3, _⟩
    · exact ⟨rfl, Nat.le_refl _⟩
    · exact ⟨e2, e3⟩
  exact h this.1 this.2 w hw

theorem base_zero {c : Prop} {_ : Decidable c} {b : Option Addr} : (if c then b else b.map fun x => x.add 0) = b := by
  split
  · rfl
  · cases b with
    | none => rfl
    | some a => simp [add_zero']

/-- An element is read, its place looked at first. -/
theorem ent_at {t : TypeId} {sh : Shp} {s : Sl} {xs : List sh.T} {I : Int} {w : Nat} {fl : World → Prop} {K : sh.T → World → Prop} (i : Nat) (x : sh.T) (hI : I = i) (hx : xs[i]? = some x) (h : ent e l (K x))
    (k : Take l (arr t sh s xs) r := by with_reducible first | assumption | ((repeat (first | exact .here | apply Take.there)); done)) (hw : w = sh.width := by rfl) :
    ent e l ((wpM P).guard (0 ≤ I ∧ I < (s.len : Int)) (dr fl s.base fun a => (wpM P).load sh (a.add (I.toNat * w)) K)) := by
  subst hI hw
  refine ent_len k fun hl => ?_
  have := (List.getElem?_eq_some_iff.1 hx).1
  refine ent_guard ⟨by omega, by omega⟩ ?_
  rw [Int.toNat_natCast]
  exact ent_get x k hx h

theorem ent_atT {t : TypeId} {sh : Shp} {s : Sl} {n : Nat} {f : Nat → sh.T} {I : Int} {w : Nat} {fl : World → Prop} {K : sh.T → World → Prop} (i : Nat) (hI : I = i) (hi : i < n) (h : ent e l (K (f i)))
    (k : Take l (arr t sh s (tab n f)) r := by with_reducible first | assumption | ((repeat (first | exact .here | apply Take.there)); done)) (hw : w = sh.width := by rfl) :
    ent e l ((wpM P).guard (0 ≤ I ∧ I < (s.len : Int)) (dr fl s.base fun a => (wpM P).load sh (a.add (I.toNat * w)) K)) :=
  ent_at i (f i) hI (tab_get hi) h k hw

theorem ent_put {t : TypeId} {sh : Shp} {s : Sl} {xs : List sh.T} {I : Int} {w : Nat} {fl X : World → Prop} {us : List Value} (i : Nat) (x : sh.T) (hI : I = i) (hi : i < xs.length) (hu : us = sh.cells x)
    (h : ent e (arr t sh s (xs.set i x) :: r) X) (hp : sh.plain = true := by rfl)
    (k : Take l (arr t sh s xs) r := by with_reducible first | assumption | ((repeat (first | exact .here | apply Take.there)); done)) (hw : w = sh.width := by rfl) :
    ent e l ((wpM P).guard (0 ≤ I ∧ I < (s.len : Int)) (dr fl s.base fun a => (wpM P).store (a.add (I.toNat * w)) us X)) := by
  subst hI hw
  refine ent_len k fun hl => ?_
  refine ent_guard ⟨by omega, by omega⟩ ?_
  rw [Int.toNat_natCast]
  exact ent_set hp k hi hu h

theorem ent_putT {t : TypeId} {sh : Shp} {s : Sl} {n : Nat} {f : Nat → sh.T} {I : Int} {w : Nat} {fl X : World → Prop} {us : List Value} (i : Nat) (x : sh.T) (hI : I = i) (hi : i < n) (hu : us = sh.cells x)
    (h : ent e (arr t sh s (tab n (set1 f i x)) :: r) X) (hp : sh.plain = true := by rfl)
    (k : Take l (arr t sh s (tab n f)) r := by with_reducible first | assumption | ((repeat (first | exact .here | apply Take.there)); done)) (hw : w = sh.width := by rfl) :
    ent e l ((wpM P).guard (0 ≤ I ∧ I < (s.len : Int)) (dr fl s.base fun a => (wpM P).store (a.add (I.toNat * w)) us X)) :=
  ent_put i x hI (by rw [tab_len]; exact hi) hu (by rw [tab_set]; exact h) hp k hw

/-- A join whose continuation is proved once. -/
theorem ent_joinP {ss : List Shp} {f : Tup ss → World → Prop} {g : (Tup ss → World → Prop) → World → Prop} {A : Type} (pre : A → Tup ss → Prop) (res : A → List HP)
    (hf : ∀ a x, pre a x → ent e (res a) (f x)) (hg : ∀ k : Tup ss → World → Prop, (∀ a x, pre a x → ent e (res a) (k x)) → ent e l (g k)) : ent e l ((wpM P).join ss f g) := hg f hf

theorem ent_st {b off : Nat} {t : TypeId} {vs us : List Value} {x : World → Prop} (h : ent e (blk b t (putAt vs off us) :: r) x) (k : Take l (blk b t vs) r := by with_reducible first | assumption | ((repeat (first | exact .here | apply Take.there)); done))
    (h1 : us.all Value.oneCell' = true := by rfl) (hl : Nat.ble (off + us.length) vs.length = true := by rfl) : ent e l ((wpM P).store ⟨b, off, none⟩ us x) :=
  ent_store k (fun u hu => List.all_eq_true.1 h1 u hu) (Nat.le_of_ble_eq_true hl) h

theorem ent_ld {b off : Nat} {t : TypeId} {vs : List Value} {kd : Kind} {K : kd.T → World → Prop} (x : kd.T) (h : ent e l (K x)) (k : Take l (blk b t vs) r := by with_reducible first | assumption | ((repeat (first | exact .here | apply Take.there)); done))
    (hv : vs[off]? = some (kd.inj x) := by rfl) : ent e l ((wpM P).load (.one kd) ⟨b, off, none⟩ K) := ent_load1 x k hv h

theorem ent_ldA {b : Nat} {t : TypeId} {vs : List Value} {ks : List Kind} {K : Row ks → World → Prop} (x : Row ks) (h : ent e l (K x)) (k : Take l (blk b t vs) r := by with_reducible first | assumption | ((repeat (first | exact .here | apply Take.there)); done))
    (hv : vs = Row.vals ks x := by rfl) : ent e l ((wpM P).load (.agg ks) ⟨b, 0, none⟩ K) :=
  ent_load (s := .agg ks) x k (fun i v hi => by rw [Nat.zero_add, hv]; exact hi) h

theorem ent_blk {b : Nat} {t : TypeId} {vs : List Value} {x : World → Prop} (us : List Value) (h : ent e (blk b t us :: r) x) (hv : vs = us := by rfl) : ent e (blk b t vs :: r) x := by subst hv; exact h

theorem ent_g0 {a : Int} {x : World → Prop} (hp : 0 ≤ a) (h : ent e l x) : ent e l ((wpM P).guard (0 ≤ a) x) := ent_guard hp h
theorem ent_gn {a : Int} {x : World → Prop} (hp : a ≠ 0) (h : ent e l x) : ent e l ((wpM P).guard (a ≠ 0) x) := ent_guard hp h

/-- A field of an element is read. -/
theorem ent_fld {t : TypeId} {ks : List Kind} {s : Sl} {xs : List (Row ks)} {I : Int} {kd : Kind} {fl : World → Prop} {A : Addr → Addr} {K : kd.T → World → Prop} (i f : Nat) (x : Row ks) (v : kd.T) (hI : I = i) (hx : xs[i]? = some x) (h : ent e l (K v))
    (k : Take l (arr t (.agg ks) s xs) r := by with_reducible first | assumption | ((repeat (first | exact .here | apply Take.there)); done)) (hA : ∀ g, A ⟨g, 0, none⟩ = ⟨g, i * ks.length + f, none⟩ := by intro g; simp [add_mk]) (hv : (Row.vals ks x)[f]? = some (kd.inj v) := by rfl) :
    ent e l ((wpM P).guard (0 ≤ I ∧ I < (s.len : Int)) (dr fl s.base fun a => (wpM P).load (.one kd) (A a) K)) := by
  subst hI
  refine ent_len k fun hl => ?_
  have hi := (List.getElem?_eq_some_iff.1 hx).1
  refine ent_guard ⟨by omega, by omega⟩ ?_
  intro w hw
  obtain ⟨a, b, s', hs, hr⟩ := k.part hw.heap
  rcases hs with ⟨rfl, rfl, ha⟩ | ⟨g, rest, e1, e2, e3, e4, ha⟩
  · simp at hi
  · have hb := star_pto ⟨a, b, s', ha, hr⟩
    rw [e1]
    refine ⟨v, ?_, h w hw⟩
    rw [hA]
    intro j u hu
    cases j with
    | zero =>
      simp only [Shp.cells, List.getElem?_cons_zero, Option.some.injEq] at hu
      subst hu
      have hg := cellsOf_get (sh := .agg ks) hx hv
      rw [add_mk, cell_of hb, Nat.add_zero, List.getElem?_append_left]
      · exact hg
      · exact (List.getElem?_eq_some_iff.1 hg).1
    | succ j => simp [Shp.cells] at hu

/-- An element is read; its place is used again. -/
theorem ent_atK {t : TypeId} {sh : Shp} {s : Sl} {n : Nat} {f : Nat → sh.T} {I : Int} {w : Nat} {fl : World → Prop} {K : Addr → sh.T → World → Prop} (i : Nat) (hI : I = i) (hi : i < n)
    (h : ∀ g, s.base = some ⟨g, 0, none⟩ → ent e l (K ⟨g, 0, none⟩ (f i))) (k : Take l (arr t sh s (tab n f)) r := by with_reducible first | assumption | ((repeat (first | exact .here | apply Take.there)); done)) (hw : w = sh.width := by rfl) :
    ent e l ((wpM P).guard (0 ≤ I ∧ I < (s.len : Int)) (dr fl s.base fun a => (wpM P).load sh (a.add (I.toNat * w)) (K a))) := by
  subst hI hw
  refine ent_len k fun hl => ?_
  rw [tab_len] at hl
  refine ent_guard ⟨by omega, by omega⟩ ?_
  rw [Int.toNat_natCast]
  intro w hw
  obtain ⟨a, b, s', hs, hr⟩ := k.part hw.heap
  rcases hs with ⟨rfl, h0, ha⟩ | ⟨g, rest, e1, e2, e3, e4, ha⟩
  · have : n = 0 := by have := congrArg List.length h0; rw [tab_len] at this; exact this
    omega
  · have hb := star_pto ⟨a, b, s', ha, hr⟩
    have h' := h g e1 w hw
    rw [e1]
    refine ⟨f i, ?_, h'⟩
    intro j v hv
    rw [add_mk, add_mk, cell_of hb, List.getElem?_append_left, Nat.zero_add]
    · exact cellsOf_get (tab_get hi) hv
    · have h1 := (List.getElem?_eq_some_iff.1 (cellsOf_get (tab_get (f := f) hi) hv)).1
      omega

theorem ent_keep0 {x : World → Prop} (h : ent e l x) : ent e l ((wpM P).keep [] x) := fun w hw => ⟨fun _ hy => by simp at hy, h w hw⟩

theorem ent_keepS {a : Addr} {v : List Value} {fs : List (Addr × List Value)} {x : World → Prop} (hr : ∀ w, Sat e l w → Hl.rowAt w a v) (h : ent e l ((wpM P).keep fs x)) : ent e l ((wpM P).keep ((a, v) :: fs) x) :=
  fun w hw => ⟨fun y hy => by
    rcases List.mem_cons.1 hy with rfl | hy
    · exact hr w hw
    · exact (h w hw).1 y hy, (h w hw).2⟩

theorem ent_keepB {b off : Nat} {v : Value} {t : TypeId} {vs : List Value} {fs : List (Addr × List Value)} {x : World → Prop} (h : ent e l ((wpM P).keep fs x)) (k : Take l (blk b t vs) r := by with_reducible first | assumption | ((repeat (first | exact .here | apply Take.there)); done)) (hv : vs[off]? = some v := by rfl) :
    ent e l ((wpM P).keep ((⟨b, off, none⟩, [v]) :: fs) x) :=
  ent_keepS (fun w hw => hw.rowAt k fun i u hu => by
    cases i with
    | zero => simp at hu; subst hu; exact hv
    | succ i => simp at hu) h

theorem ent_keepT {t : TypeId} {sh : Shp} {s : Sl} {n g : Nat} {f : Nat → sh.T} {I : Int} {w : Nat} {vs : List Value} {fs : List (Addr × List Value)} {x : World → Prop} (i : Nat) (hb : s.base = some ⟨g, 0, none⟩) (hI : I = i) (hi : i < n)
    (h : ent e l ((wpM P).keep fs x)) (k : Take l (arr t sh s (tab n f)) r := by with_reducible first | assumption | ((repeat (first | exact .here | apply Take.there)); done)) (hw : w = sh.width := by rfl) (hv : vs = sh.cells (f i) := by rfl) :
    ent e l ((wpM P).keep (((⟨g, 0, none⟩ : Addr).add (I.toNat * w), vs) :: fs) x) := by
  subst hI hw hv
  refine ent_keepS (fun w hw => ?_) h
  rw [Int.toNat_natCast]
  obtain ⟨a, b, s', hs, hr⟩ := k.part hw.heap
  rcases hs with ⟨rfl, h0, ha⟩ | ⟨g', rest, e1, e2, e3, e4, ha⟩
  · cases hb
  · rw [hb] at e1
    cases e1
    have hb := star_pto ⟨a, b, s', ha, hr⟩
    intro j v hv
    rw [add_mk, add_mk, cell_of hb, List.getElem?_append_left, Nat.zero_add]
    · exact cellsOf_get (tab_get hi) hv
    · have h1 := (List.getElem?_eq_some_iff.1 (cellsOf_get (tab_get (f := f) hi) hv)).1
      omega

/-! ## Conditions -/

variable {x y : World → Prop}

theorem ent_lt {a b : Int} (h1 : a < b → ent e l x) (h2 : b ≤ a → ent e l y) : ent e l (bif decide (a < b) then x else y) :=
  ent_cond (fun c => h1 (of_decide_eq_true c)) (fun c => h2 (by have := of_decide_eq_false c; omega))
theorem ent_le {a b : Int} (h1 : a ≤ b → ent e l x) (h2 : b < a → ent e l y) : ent e l (bif decide (a ≤ b) then x else y) :=
  ent_cond (fun c => h1 (of_decide_eq_true c)) (fun c => h2 (by have := of_decide_eq_false c; omega))
theorem ent_gt {a b : Int} (h1 : b < a → ent e l x) (h2 : a ≤ b → ent e l y) : ent e l (bif decide (a > b) then x else y) :=
  ent_cond (fun c => h1 (of_decide_eq_true c)) (fun c => h2 (by have := of_decide_eq_false c; omega))
theorem ent_ge {a b : Int} (h1 : b ≤ a → ent e l x) (h2 : a < b → ent e l y) : ent e l (bif decide (a ≥ b) then x else y) :=
  ent_cond (fun c => h1 (of_decide_eq_true c)) (fun c => h2 (by have := of_decide_eq_false c; omega))
theorem ent_eq {a b : Int} (h1 : a = b → ent e l x) (h2 : a ≠ b → ent e l y) : ent e l (bif a == b then x else y) :=
  ent_cond (fun c => h1 (by simpa using c)) (fun c => h2 (by simpa using c))
theorem ent_ne {a b : Int} (h1 : a ≠ b → ent e l x) (h2 : a = b → ent e l y) : ent e l (bif a != b then x else y) :=
  ent_cond (fun c => h1 (by simpa using c)) (fun c => h2 (by simpa using c))
theorem ent_dec {p : Prop} {_ : Decidable p} (h1 : p → ent e l x) (h2 : ¬ p → ent e l y) : ent e l (bif decide p then x else y) :=
  ent_cond (fun c => h1 (of_decide_eq_true c)) (fun c => h2 (of_decide_eq_false c))
theorem ent_not {b : Bool} (h1 : b = false → ent e l x) (h2 : b = true → ent e l y) : ent e l (bif !b then x else y) :=
  ent_cond (fun c => h1 (by simpa using c)) (fun c => h2 (by simpa using c))
theorem ent_ndec {p : Prop} {_ : Decidable p} (h1 : ¬ p → ent e l x) (h2 : p → ent e l y) : ent e l (bif !decide p then x else y) :=
  ent_cond (fun c => h1 (by simpa using c)) (fun c => h2 (by simpa using c))
theorem ent_true (h : ent e l x) : ent e l (bif true then x else y) := h
theorem ent_false (h : ent e l y) : ent e l (bif false then x else y) := h

/-! ## Parts by number -/

def each (n : Nat) (f : Nat → HP) : HP := all ((List.range n).map f)

def eachBut (n : Nat) (f : Nat → HP) (k : Nat) : HP := all ((List.range k).map f ++ (List.range' (k + 1) (n - k - 1)).map f)

theorem Take.mid (A B : List HP) (x : HP) : Take (A ++ x :: B) x (A ++ B) := by
  induction A with
  | nil => exact .here
  | cons a A ih => exact .there ih

theorem range_split {n k : Nat} (h : k < n) : List.range n = List.range k ++ k :: List.range' (k + 1) (n - k - 1) := by
  rw [List.range_eq_range', List.range_eq_range', ← List.range'_succ, show n - k - 1 + 1 = n - k by omega]
  have := List.range'_append_1 (s := 0) (m := k) (n := n - k)
  rw [Nat.zero_add, show k + (n - k) = n by omega] at this
  exact this.symm

theorem each_out {n k : Nat} {f : Nat → HP} (h : k < n) {hh : Heap} (y : each n f hh) : star (f k) (eachBut n f k) hh := by
  unfold each at y
  rw [range_split h, List.map_append, List.map_cons] at y
  exact (Take.mid _ _ _).stars y

theorem each_in {n k : Nat} {f g : Nat → HP} (h : k < n) (hg : ∀ j, j < n → j ≠ k → g j = f j) {hh : Heap} (y : star (g k) (eachBut n f k) hh) : each n g hh := by
  unfold each
  rw [range_split h, List.map_append, List.map_cons]
  refine (Take.mid _ _ _).back ?_
  have e1 : (List.range k).map g = (List.range k).map f := List.map_congr_left fun j hj => hg j (by have := List.mem_range.1 hj; omega) (by have := List.mem_range.1 hj; omega)
  have e2 : (List.range' (k + 1) (n - k - 1)).map g = (List.range' (k + 1) (n - k - 1)).map f := List.map_congr_left fun j hj => by
    have := List.mem_range'_1.1 hj
    exact hg j (by omega) (by omega)
  rw [e1, e2]; exact y

theorem Sub.each {n k : Nat} {f g : Nat → HP} {l' : List HP} (h : k < n) (hg : ∀ j, j < n → j ≠ k → g j = f j) (hs : Sub l (g k :: eachBut n f k :: l')) : Sub l (each n g :: l') :=
  fun _ y => cons_part (star_mono (fun _ z => each_in h hg z) (fun _ z => z) (star_assoc (star_mono (fun _ z => z) (fun _ z => part_cons z) (part_cons (hs _ y)))))

theorem ent_each {n : Nat} {f : Nat → HP} {X : World → Prop} (k : Nat) (hk : k < n) (h : ent e (f k :: eachBut n f k :: r) X) (t : Take l (each n f) r := by with_reducible first | assumption | ((repeat (first | exact .here | apply Take.there)); done)) : ent e l X :=
  ent_sub (l' := f k :: eachBut n f k :: r) (fun _ y => cons_part (star_mono (fun _ z => z) (fun _ z => cons_part z) (star_assoc' (star_mono (fun _ z => each_out hk z) (fun _ z => z) (t.part y))))) h

theorem Sub.each_nil {f : Nat → HP} {l' : List HP} (hs : Sub l l') : Sub l (Hl.each 0 f :: l') := fun _ y => cons_part (emp_star (hs _ y))

theorem Sub.each_snoc {n : Nat} {f : Nat → HP} {l' : List HP} (hs : Sub l (f n :: Hl.each n f :: l')) : Sub l (Hl.each (n + 1) f :: l') := by
  refine Sub.trans hs (fun _ y => cons_part (star_mono (fun _ z => ?_) (fun _ z => z) (star_assoc (star_mono (fun _ z => z) (fun _ z => part_cons z) (part_cons y)))))
  unfold Hl.each at *
  rw [List.range_succ, List.map_append]
  exact stars_append.2 (star_comm (star_mono (fun _ z => star_emp_in z) (fun _ z => z) z))

theorem Sub.each_congr {n : Nat} {f g : Nat → HP} {l' : List HP} (h : ∀ i, i < n → f i = g i) (hs : Sub l (Hl.each n f :: l')) : Sub l (Hl.each n g :: l') := by
  have : Hl.each n f = Hl.each n g := by
    unfold Hl.each; congr 1
    exact List.map_congr_left fun i hi => h i (List.mem_range.1 hi)
  rw [← this]; exact hs

end Hl
end Go.Proofs.Ytdmfnlcbfmahhaa
