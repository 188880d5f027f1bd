/- Slices in memory, and rules for append, copy, make and clear. -/
import Derived.Test.YtdmfnlcbfmahhaaHlSep
import Derived.Laws.OwnMore
import Derived.Laws.CopyRow
import Derived.Laws.IdiomCopy
namespace Go.Proofs.Ytdmfnlcbfmahhaa
namespace Hl
open Go

variable {e : Still} {l r : List HP} {P : Program}

/-! ## Weakening -/

def ex {A : Type} (p : A → HP) : HP := fun h => ∃ x, p x h
def fact (φ : Prop) : HP := fun h => φ ∧ emp h
def all (ps : List HP) : HP := stars ps

def Sub (l l' : List HP) : Prop := ∀ h, part l h → part l' h

theorem Sub.refl : Sub l l := fun _ h => h
theorem Sub.trans {a b c : List HP} (h : Sub a b) (k : Sub b c) : Sub a c := fun x y => k x (h x y)
theorem Sub.drop {p : HP} {l' : List HP} (h : Sub l l') : Sub (p :: l) l' := fun x y => h x (star_mono (fun _ y => y) (fun _ _ => trivial) (star_swap (part_cons y)))
theorem Sub.nil : Sub l [] := fun _ _ => emp_star trivial
theorem Sub.cons {p : HP} {l' : List HP} (k : Take l p r) (h : Sub r l') : Sub l (p :: l') := fun _ y => cons_part (star_mono (fun _ z => z) (fun _ z => h _ z) (k.part y))
theorem Sub.ex {A : Type} {p : A → HP} {l' : List HP} (x : A) (h : Sub l (p x :: l')) : Sub l (ex p :: l') :=
  fun _ y => cons_part (star_mono (fun _ z => ⟨x, z⟩) (fun _ z => z) (part_cons (h _ y)))
theorem Sub.fact {φ : Prop} {l' : List HP} (hφ : φ) (h : Sub l l') : Sub l (fact φ :: l') :=
  fun _ y => cons_part (star_mono (fun _ z => ⟨hφ, z⟩) (fun _ z => z) (emp_star (h _ y)))
theorem Sub.all {ps : List HP} {l' : List HP} (h : Sub l (ps ++ l')) : Sub l (all ps :: l') :=
  fun _ y => cons_part (star_assoc' (star_mono (fun _ z => stars_append.1 z) (fun _ z => z) (h _ y)))

theorem Sub.open_all {ps : List HP} {l' : List HP} (h : Sub (ps ++ l) l') : Sub (Hl.all ps :: l) l' :=
  fun _ y => h _ (star_mono (fun _ z => stars_append.2 z) (fun _ z => z) (star_assoc (part_cons y)))

theorem ent_sub {l' : List HP} {x : World → Prop} (h : Sub l l') (hx : ent e l' x) : ent e l x := fun w hw => hx w ⟨hw.tape, hw.os, hw.output, h _ hw.heap⟩

theorem ent_ex {A : Type} {p : A → HP} {x : World → Prop} (k : Take l (ex p) r) (h : ∀ a, ent e (p a :: r) x) : ent e l x := by
  intro w hw
  obtain ⟨h1, h2, s, ⟨a, ha⟩, hr⟩ := k.part hw.heap
  exact h a w ⟨hw.tape, hw.os, hw.output, cons_part ⟨h1, h2, s, ha, hr⟩⟩

theorem ent_fact {φ : Prop} {x : World → Prop} (k : Take l (fact φ) r) (h : φ → ent e r x) : ent e l x := by
  intro w hw
  obtain ⟨h1, h2, s, ⟨hφ, ha⟩, hr⟩ := k.part hw.heap
  exact h hφ w ⟨hw.tape, hw.os, hw.output, star_emp (star_comm ⟨h1, h2, s, ha, hr⟩)⟩

theorem ent_all {ps : List HP} {x : World → Prop} (k : Take l (all ps) r) (h : ent e (ps ++ r) x) : ent e l x :=
  ent_sub (Sub.trans (Sub.cons k .refl) (Sub.open_all .refl)) h

/-! ## Slices -/

def Shp.width : Shp → Nat
  | .one _ => 1
  | .agg ks => ks.length

theorem Shp.cells_length (s : Shp) (x : s.T) : (s.cells x).length = s.width := by
  cases s with
  | one k => rfl
  | agg ks => exact Row.vals_length ks x

/-- The cells of a list of values of one shape. -/
def cellsOf (sh : Shp) (xs : List sh.T) : List Value := xs.flatMap sh.cells

theorem cellsOf_length (sh : Shp) (xs : List sh.T) : (cellsOf sh xs).length = xs.length * sh.width := by
  induction xs with
  | nil => simp [cellsOf]
  | cons x xs ih => simp only [cellsOf, List.flatMap_cons, List.length_append, List.length_cons] at *; rw [ih, Shp.cells_length, Nat.add_mul]; omega

theorem cellsOf_get {sh : Shp} {xs : List sh.T} {i : Nat} {x : sh.T} (h : xs[i]? = some x) {j : Nat} {v : Value} (hv : (sh.cells x)[j]? = some v) : (cellsOf sh xs)[i * sh.width + j]? = some v := by
  induction xs generalizing i with
  | nil => simp at h
  | cons y xs ih =>
    have hj : j < sh.width := by rw [← Shp.cells_length sh x]; exact (List.getElem?_eq_some_iff.1 hv).1
    cases i with
    | zero =>
      simp only [List.getElem?_cons_zero, Option.some.injEq] at h
      subst h
      simp only [cellsOf, List.flatMap_cons, Nat.zero_mul, Nat.zero_add]
      rw [List.getElem?_append_left (by rw [Shp.cells_length]; exact hj)]
      exact hv
    | succ i =>
      simp only [List.getElem?_cons_succ] at h
      simp only [cellsOf, List.flatMap_cons]
      rw [List.getElem?_append_right (by rw [Shp.cells_length, Nat.add_mul]; omega), Shp.cells_length]
      have := ih h
      rw [show (i + 1) * sh.width + j - sh.width = i * sh.width + j by rw [Nat.add_mul]; omega]
      exact this

theorem cellsOf_append (sh : Shp) (xs ys : List sh.T) : cellsOf sh (xs ++ ys) = cellsOf sh xs ++ cellsOf sh ys := by simp [cellsOf]

/-- A slice that lies from a block's first cell on, with what it holds. -/
def arr (t : TypeId) (sh : Shp) (s : Sl) (xs : List sh.T) : HP := fun h =>
  (s = ⟨none, 0, 0⟩ ∧ xs = [] ∧ emp h) ∨
  ∃ g rest, s.base = some ⟨g, 0, none⟩ ∧ s.len = xs.length ∧ s.len ≤ s.cap ∧ s.cap * sh.width ≤ (cellsOf sh xs ++ rest).length ∧ blk g t (cellsOf sh xs ++ rest) h

theorem ent_arr {t : TypeId} {sh : Shp} {s : Sl} {xs : List sh.T} {x : World → Prop} (k : Take l (arr t sh s xs) r)
    (h0 : s = ⟨none, 0, 0⟩ → xs = [] → ent e r x)
    (h1 : ∀ g rest, s = ⟨some ⟨g, 0, none⟩, xs.length, s.cap⟩ → xs.length ≤ s.cap → s.cap * sh.width ≤ (cellsOf sh xs ++ rest).length → ent e (blk g t (cellsOf sh xs ++ rest) :: r) x) : ent e l x := by
  intro w hw
  obtain ⟨a, b, s', hs, hr⟩ := k.part hw.heap
  rcases hs with ⟨rfl, rfl, ha⟩ | ⟨g, rest, e1, e2, e3, e4, ha⟩
  · exact h0 rfl rfl w ⟨hw.tape, hw.os, hw.output, star_emp (star_comm ⟨a, b, s', ha, hr⟩)⟩
  · exact h1 g rest (by cases s; simp_all) (by omega) e4 w ⟨hw.tape, hw.os, hw.output, cons_part ⟨a, b, s', ha, hr⟩⟩

theorem Sub.arr_nil {t : TypeId} {sh : Shp} {l' : List HP} (h : Sub l l') : Sub l (arr t sh ⟨none, 0, 0⟩ [] :: l') :=
  fun _ y => cons_part (star_mono (fun _ z => .inl ⟨rfl, rfl, z⟩) (fun _ z => z) (emp_star (h _ y)))

theorem Sub.arr {t : TypeId} {sh : Shp} {l' : List HP} {g n c : Nat} {xs : List sh.T} {vs : List Value} (k : Take l (blk g t vs) r) (hn : n = xs.length) (hc : n ≤ c) (hv : (cellsOf sh xs) <+: vs) (hw : c * sh.width ≤ vs.length)
    (h : Sub r l') : Sub l (arr t sh ⟨some ⟨g, 0, none⟩, n, c⟩ xs :: l') := by
  obtain ⟨rest, rfl⟩ := hv
  exact fun _ y => cons_part (star_mono (fun _ z => .inr ⟨g, rest, rfl, hn, hc, hw, z⟩) (fun _ z => h _ z) (k.part y))

/-- One element is read. -/
theorem ent_get {t : TypeId} {sh : Shp} {s : Sl} {xs : List sh.T} {i : Nat} {f : World → Prop} {K : sh.T → World → Prop} (x : sh.T) (k : Take l (arr t sh s xs) r) (hi : xs[i]? = some x) (h : ent e l (K x)) :
    ent e l (dr f s.base fun a => (wpM P).load sh (a.add (i * sh.width)) K) := by
  intro w hw
  obtain ⟨a, b, s', hs, hr⟩ := k.part hw.heap
  rcases hs with ⟨rfl, rfl, ha⟩ | ⟨g, rest, e1, e2, e3, e4, ha⟩
  · simp at hi
  · have hb := star_pto ⟨a, b, s', ha, hr⟩
    rw [e1]
    refine ⟨x, ?_, h w hw⟩
    intro j v hv
    rw [add_mk, add_mk, cell_of hb, List.getElem?_append_left, Nat.zero_add]
    · exact cellsOf_get hi hv
    · have h1 := (List.getElem?_eq_some_iff.1 (cellsOf_get hi hv)).1
      omega

theorem Row.cells_one : (ks : List Kind) → (r : Row ks) → (∀ k ∈ ks, k ≠ .any) → ∀ u ∈ Row.vals ks r, u.oneCell' = true
  | [], _, _, u, hu => by simp [Row.vals] at hu
  | k :: ks, r, hk, u, hu => by
    simp only [Row.vals, List.mem_cons] at hu
    rcases hu with rfl | hu
    · have := hk k List.mem_cons_self
      cases k <;> first | rfl | exact absurd rfl this
    · exact Row.cells_one ks r.2 (fun k' h' => hk k' (List.mem_cons_of_mem _ h')) u hu

def Shp.plain : Shp → Bool
  | .one k => k != .any
  | .agg ks => ks.all (· != .any)

theorem Shp.cells_one {sh : Shp} (hp : sh.plain = true) (x : sh.T) : ∀ u ∈ sh.cells x, u.oneCell' = true := by
  cases sh with
  | one k =>
    intro u hu
    simp only [Shp.cells, List.mem_singleton] at hu
    subst hu
    cases k <;> first | rfl | simp [Shp.plain] at hp
  | agg ks => exact Row.cells_one ks x (fun k hk => by simp [Shp.plain] at hp; exact hp k hk)

theorem cellsOf_one {sh : Shp} (hp : sh.plain = true) (xs : List sh.T) : ∀ u ∈ cellsOf sh xs, u.oneCell' = true := by
  intro u hu
  simp only [cellsOf, List.mem_flatMap] at hu
  obtain ⟨x, _, hx⟩ := hu
  exact Shp.cells_one hp x u hx

theorem putAt_append (us : List Value) : ∀ (pre vs post : List Value), vs.length = us.length → putAt (pre ++ vs ++ post) pre.length us = pre ++ us ++ post := by
  induction us with
  | nil => intro pre vs post h; rw [List.eq_nil_of_length_eq_zero h]; rfl
  | cons u us ih =>
    intro pre vs post h
    cases vs with
    | nil => simp at h
    | cons v vs =>
      have := ih (pre ++ [u]) vs post (by simpa using h)
      simp only [putAt]
      simp only [List.append_assoc, List.cons_append, List.nil_append, List.length_append, List.length_cons, List.length_nil] at this ⊢
      rw [List.set_append_right _ _ (Nat.le_refl _)]
      simpa using this

/-- One element is written. -/
theorem ent_set {t : TypeId} {sh : Shp} {s : Sl} {xs : List sh.T} {i : Nat} {f X : World → Prop} {x : sh.T} {us : List Value} (hp : sh.plain = true) (k : Take l (arr t sh s xs) r) (hi : i < xs.length) (hu : us = sh.cells x)
    (h : ent e (arr t sh s (xs.set i x) :: r) X) : ent e l (dr f s.base fun a => (wpM P).store (a.add (i * sh.width)) us X) := by
  subst hu
  refine ent_arr k (fun _ e0 => by subst e0; simp at hi) fun g rest hs hc hl => ?_
  rw [hs]
  show ent e _ ((wpM P).store ((⟨g, 0, none⟩ : Addr).add (i * sh.width)) (sh.cells x) X)
  rw [add_mk, Nat.zero_add]
  have hsplit : cellsOf sh xs = cellsOf sh (xs.take i) ++ sh.cells xs[i] ++ cellsOf sh (xs.drop (i + 1)) := by
    rw [List.append_assoc, show sh.cells xs[i] ++ cellsOf sh (xs.drop (i + 1)) = cellsOf sh (xs[i] :: xs.drop (i + 1)) from rfl, ← List.drop_eq_getElem_cons hi, ← cellsOf_append, List.take_append_drop]
  have hpre : (cellsOf sh (xs.take i)).length = i * sh.width := by rw [cellsOf_length, List.length_take, Nat.min_eq_left (by omega)]
  have hput : putAt (cellsOf sh xs ++ rest) (i * sh.width) (sh.cells x) = cellsOf sh (xs.set i x) ++ rest := by
    rw [hsplit, ← hpre, List.append_assoc, putAt_append _ _ _ _ (by rw [Shp.cells_length, Shp.cells_length])]
    rw [List.set_eq_take_append_cons_drop, if_pos hi]
    simp [cellsOf]
  refine ent_store .here (Shp.cells_one hp x) ?_ ?_
  · rw [Shp.cells_length, List.length_append, cellsOf_length]
    have : (i + 1) * sh.width ≤ xs.length * sh.width := Nat.mul_le_mul_right _ hi
    rw [Nat.add_mul] at this
    omega
  · rw [hput]
    refine ent_sub ?_ h
    rw [hs]
    refine Sub.arr .here (by simp) (by simpa using hc) (List.prefix_append _ _) ?_ .refl
    rw [List.length_append, cellsOf_length] at hl ⊢
    simpa using hl

/-! ## Library operations on slices -/

theorem madeCells_list (sh : Shp) (x : sh.T) (z : Array Value) (hz : z.toList = sh.cells x) (n : Nat) : (madeCells z (n * sh.width)).toList = cellsOf sh (List.replicate n x) := by
  have hsz : z.size = sh.width := by rw [← Array.length_toList, hz, Shp.cells_length]
  have hz' : z = (sh.cells x).toArray := by rw [← hz]
  apply List.ext_getElem?
  intro j
  by_cases hj : j < n * sh.width
  · have hw : 0 < sh.width := by
      rcases Nat.eq_zero_or_pos sh.width with h | h
      · rw [h] at hj; simp at hj
      · exact h
    have hq : j / sh.width < n := (Nat.div_lt_iff_lt_mul hw).2 hj
    have hm : j % sh.width < sh.width := Nat.mod_lt _ hw
    have hx : (sh.cells x)[j % sh.width]? = some ((sh.cells x)[j % sh.width]'(by rw [Shp.cells_length]; exact hm)) := List.getElem?_eq_getElem _
    have := cellsOf_get (xs := List.replicate n x) (i := j / sh.width) (x := x) (by simp [hq]) hx
    rw [show j / sh.width * sh.width + j % sh.width = j by rw [Nat.mul_comm]; exact Nat.div_add_mod j _] at this
    rw [this, Array.getElem?_toList]
    unfold madeCells
    rw [Array.getElem?_map, Array.getElem?_range, if_pos hj]
    simp only [Option.map_some, hsz]
    congr 1
    subst hz'
    rw [getElem!_pos _ _ (by simpa [Shp.cells_length] using hm)]
    simp
  · rw [List.getElem?_eq_none (by simp [size_madeCells]; omega), List.getElem?_eq_none (by rw [cellsOf_length]; simp; omega)]

theorem ent_make {t el : TypeId} {ti : TypeInfo} {z : Value} (sh : Shp) (x0 : sh.T) (ht : P.underlying t = some (.slice el)) (hi : P.info? el = some ti) (hz : ti.zero = some z) (hx : z.cells.toList = sh.cells x0) (hs : ti.size = sh.width)
    {kl kc : IntKind} {n c : Int} {K : Sl → World → Prop} (n' c' : Nat) (hn : n = n') (hc : c = c') (hnc : n' ≤ c') (hb : ti.bytes * c' ≤ 281474976710656) (h63 : c' ≤ 9223372036854775807)
    (h : ∀ s, s.len = n' → s.cap = c' → ent e (arr el sh s (List.replicate n' x0) :: l) (K s)) : ent e l ((wpM P).sem (Instr.makeSlice t (.int kl n) (.int kc c)) sS K) := by
  intro w hw
  subst hn hc
  have hb' : (ti.bytes : Int) * (c' : Int) ≤ 281474976710656 := by
    have h : ((ti.bytes * c' : Nat) : Int) ≤ 281474976710656 := by omega
    rwa [Int.natCast_mul] at h
  refine runsTo_of_run (run_make w t el ti z ht hi hz kl kc n' c' (by omega) (by omega) hb' (by omega)) ?_
  simp only [Int.toNat_natCast]
  refine ⟨⟨some ⟨w.heap.size, 0, none⟩, n', c'⟩, rfl, ?_⟩
  have hl := madeCells_list sh x0 z.cells hx c'
  refine ent_sub (l := blk w.heap.size el (cellsOf sh (List.replicate c' x0)) :: l) ?_ (h _ rfl rfl) _ ?_
  · refine Sub.arr .here (by simp) hnc ?_ (by rw [cellsOf_length]; simp) .refl
    refine ⟨cellsOf sh (List.replicate (c' - n') x0), ?_⟩
    rw [← cellsOf_append, List.replicate_append_replicate]
    congr 2; omega
  · rw [hs]
    have : madeCells z.cells (c' * sh.width) = (cellsOf sh (List.replicate c' x0)).toArray := by rw [← hl]
    rw [this]
    exact hw.alloc _

/-- What is read of a second slice. -/
def Tells (e : Still) (l : List HP) (s : Sl) (vs : List Value) : Prop := (s.base = none ∧ s.len = 0 ∧ s.cap = 0 ∧ vs = []) ∨ ∃ a, s.base = some a ∧ ∀ w, Sat e l w → rowAt w a vs

theorem Sat.setRow {b : Nat} {t : TypeId} {vs us : List Value} {w : World} (h : Sat e l w) (k : Take l (blk b t vs) r) : Sat e (blk b t us :: r) (w.setRow b us.toArray) :=
  ⟨h.tape, h.os, h.output, cons_part (heap_set (k.part h.heap) (fun c => by
    by_cases hc : c = b
    · subst hc; rw [setRow_heap w c _ _ t (0, 0) (h.block k)]; simp
    · rw [setRow_other w b c _ hc]; simp [hc]))⟩

theorem ent_append {t ty el : TypeId} {ti : TypeInfo} {z : Value} {sh : Shp} (ht : P.underlying t = some (.slice el)) (hi : P.info? el = some ti) (hz : ti.zero = some z) (hs : ti.size = sh.width) (hp : sh.plain = true) (_hw0 : 0 < sh.width) (hzc : z.cells.size = sh.width)
    {s s2 : Sl} {xs ys : List sh.T} {K : Sl → World → Prop} (k : Take l (arr el sh s xs) r) (hn : s2.len = ys.length) (hy0 : Tells e r s2 (cellsOf sh ys))
    (hfit : (xs.length + ys.length) * ti.bytes ≤ 140737488355328) (h63 : xs.length + ys.length ≤ 4611686018427387904)
    (h : ∀ s', s'.len = xs.length + ys.length → ent e (arr el sh s' (xs ++ ys) :: r) (K s')) :
    ent e l ((wpM P).sem (Builtin.append_ #[t, t] ty #[.slice s.base s.len s.cap, .slice s2.base s2.len s2.cap]) sS K) := by
  have hyl : (cellsOf sh ys).length = ys.length * ti.size := by rw [cellsOf_length, hs]
  refine ent_arr k (fun e1 e2 => ?_) (fun g rest e1 e2 e3 => ?_)
  · subst e1 e2
    intro w hw
    rcases hy0 with ⟨hb, hl0, hc0, hv⟩ | ⟨a, hb, hr⟩
    · have hys : ys = [] := List.eq_nil_of_length_eq_zero (by omega)
      subst hys
      refine runsTo_of_run (v := .slice none 0 0) (w' := w) ?_ ⟨⟨none, 0, 0⟩, rfl, ?_⟩
      · simp [Builtin.append_, run_underlying ht, sizeOf, typeInfo, hi, Builtin.lenOf, Builtin.firstCells, hb, hl0, hc0]
      · exact ent_sub (Sub.arr_nil .refl) (h ⟨none, 0, 0⟩ rfl) _ hw
    · rw [hb, hn]
      by_cases h0 : ys.length = 0
      · have hys : ys = [] := List.eq_nil_of_length_eq_zero h0
        subst hys
        refine runsTo_of_run (v := .slice none 0 0) (w' := w) ?_ ⟨⟨none, 0, 0⟩, rfl, ?_⟩
        · simp [Builtin.append_, run_underlying ht, sizeOf, typeInfo, hi, Builtin.lenOf, Builtin.firstCells, loadCells, loadCellsFrom]
        · exact ent_sub (Sub.arr_nil .refl) (h ⟨none, 0, 0⟩ rfl) _ hw
      · refine runsTo_of_run (run_append_nil w t ty el ti z ht hi hz a ys.length s2.cap (cellsOf sh ys) hyl (hr w hw) (by omega) (by omega) (by simp at hfit; omega)) ?_
        refine ⟨⟨some ⟨w.heap.size, 0, none⟩, ys.length, grownCap w ys.length 0 el⟩, rfl, ?_⟩
        have hge := grownCap_ge w ys.length 0 el
        refine ent_sub (l := blk w.heap.size el (cellsOf sh ys ++ (Builtin.zeroCells z.cells (grownCap w ys.length 0 el - ys.length)).toList) :: r) ?_ (h _ (by simp)) _ ?_
        · refine Sub.arr .here (by simp) hge (List.prefix_append _ _) ?_ .refl
          simp only [List.length_append, Array.length_toList, size_zeroCells, hzc, cellsOf_length, ← Nat.add_mul]
          exact Nat.mul_le_mul_right _ (by omega)
        · have := hw.drew.alloc (.cells ((cellsOf sh ys).toArray ++ Builtin.zeroCells z.cells (grownCap w ys.length 0 el - ys.length)) el)
          unfold blk
          rw [← List.append_toArray, Array.toArray_toList]
          exact this
  · have e4 : s.base = some ⟨g, 0, none⟩ ∧ s.len = xs.length := by rw [e1]; exact ⟨rfl, rfl⟩
    rw [e4.1, e4.2]
    intro w hw
    have hxl : (cellsOf sh xs).length = xs.length * ti.size := by rw [cellsOf_length, hs]
    have hwl : xs.length * sh.width ≤ s.cap * sh.width := Nat.mul_le_mul_right _ e2
    rcases hy0 with ⟨hb, hl0, hc0, hv⟩ | ⟨a, hb, hr⟩
    · have hys : ys = [] := List.eq_nil_of_length_eq_zero (by omega)
      subst hys
      rw [hb, hl0, hc0]
      refine runsTo_of_run (v := .slice (some ⟨g, 0, none⟩) xs.length s.cap) (w' := w) ?_ ⟨⟨some ⟨g, 0, none⟩, xs.length, s.cap⟩, rfl, ?_⟩
      · simp [Builtin.append_, run_underlying ht, sizeOf, typeInfo, hi, Builtin.lenOf, Builtin.firstCells, e2, storeCells]
      · exact ent_sub (Sub.arr .here (by simp) e2 (by simp) e3 .refl) (h _ (by simp)) _ hw
    · rw [hb, hn]
      by_cases hroom : xs.length + ys.length ≤ s.cap
      · have hcap : (xs.length + ys.length) * sh.width ≤ s.cap * sh.width := Nat.mul_le_mul_right _ hroom
        rw [Nat.add_mul] at hcap
        refine runsTo_of_run (run_append_room w t ty el ti ht hi g xs.length s.cap _ (hw.block .here) a ys.length s2.cap (cellsOf sh ys) hyl (hr w hw.drop) (cellsOf_one hp ys) hroom ?_) ?_
        · rw [cellsOf_length, hs, List.size_toArray]; omega
        · refine ⟨⟨some ⟨g, 0, none⟩, xs.length + ys.length, s.cap⟩, rfl, ?_⟩
          refine ent_sub (l := blk g el (cellsOf sh xs ++ cellsOf sh ys ++ (cellsOf sh xs ++ rest).drop (xs.length * ti.size + (cellsOf sh ys).length)) :: r) ?_ (h _ rfl) _ ?_
          · refine Sub.arr .here (by simp) hroom (by rw [cellsOf_append]; exact List.prefix_append _ _) ?_ .refl
            simp only [List.length_append, List.length_drop, cellsOf_length, hs] at e3 ⊢
            omega
          · have := hw.setRow (us := cellsOf sh xs ++ cellsOf sh ys ++ (cellsOf sh xs ++ rest).drop (xs.length * ti.size + (cellsOf sh ys).length)) .here
            rw [show (cellsOf sh xs ++ rest).toArray.toList.take (xs.length * ti.size) = cellsOf sh xs by simp only [← hxl, List.take_left]]
            exact this
      · have hol : ∀ j v, (cellsOf sh xs)[j]? = some v → w.cell? ((⟨g, 0, none⟩ : Addr).add j) = some v := by
          intro j v hv
          rw [add_mk, cell_of (hw.block .here), Nat.zero_add, List.getElem?_append_left (List.getElem?_eq_some_iff.1 hv).1]
          exact hv
        refine runsTo_of_run (run_append_grow w t ty el ti z ht hi hz ⟨g, 0, none⟩ xs.length s.cap (cellsOf sh xs) hxl hol a ys.length s2.cap (cellsOf sh ys) hyl (hr w hw.drop) (by omega) (by omega) (growslice_fits (by omega) hfit)) ?_
        refine ⟨⟨some ⟨w.heap.size, 0, none⟩, xs.length + ys.length, grownCap w (xs.length + ys.length) s.cap el⟩, rfl, ?_⟩
        have hge := grownCap_ge w (xs.length + ys.length) s.cap el
        refine ent_sub (l := blk w.heap.size el (cellsOf sh xs ++ cellsOf sh ys ++ (Builtin.zeroCells z.cells (grownCap w (xs.length + ys.length) s.cap el - (xs.length + ys.length))).toList) :: r) ?_ (h _ rfl) _ ?_
        · refine Sub.arr .here (by simp) hge (by rw [cellsOf_append]; exact List.prefix_append _ _) ?_ .refl
          simp only [List.length_append, Array.length_toList, size_zeroCells, hzc, cellsOf_length, ← Nat.add_mul]
          exact Nat.mul_le_mul_right _ (by omega)
        · have := (hw.drop).drew.alloc (.cells ((cellsOf sh xs).toArray ++ (cellsOf sh ys).toArray ++ Builtin.zeroCells z.cells (grownCap w (xs.length + ys.length) s.cap el - (xs.length + ys.length))) el)
          unfold blk
          rw [← List.append_toArray, ← List.append_toArray, Array.toArray_toList]
          exact this

theorem Tells.blk {g : Nat} {t : TypeId} {us vs : List Value} {n c : Nat} (k : Take l (blk g t us) r) (h : vs <+: us) : Tells e l ⟨some ⟨g, 0, none⟩, n, c⟩ vs :=
  .inr ⟨_, rfl, fun w hw => hw.rowAt k (fun i v hv => by
    obtain ⟨rest, rfl⟩ := h
    rw [Nat.zero_add, List.getElem?_append_left (List.getElem?_eq_some_iff.1 hv).1]; exact hv)⟩

theorem Tells.arr {t : TypeId} {sh : Shp} {s : Sl} {xs : List sh.T} (k : Take l (arr t sh s xs) r) (w0 : World) (h0 : Sat e l w0) : Tells e l s (cellsOf sh xs) := by
  obtain ⟨a, b, s', hs, hr⟩ := k.part h0.heap
  rcases hs with ⟨rfl, rfl, ha⟩ | ⟨g, rest, e1, e2, e3, e4, ha⟩
  · exact .inl ⟨rfl, rfl, rfl, rfl⟩
  · refine .inr ⟨_, e1, fun w hw => ?_⟩
    obtain ⟨a', b', s'', hs', hr'⟩ := k.part hw.heap
    rcases hs' with ⟨rfl, _, _⟩ | ⟨g', rest', e1', _, _, _, ha'⟩
    · cases e1
    · rw [e1] at e1'
      cases e1'
      have hb := star_pto ⟨a', b', s'', ha', hr'⟩
      intro j v hv
      rw [add_mk, cell_of hb, Nat.zero_add, List.getElem?_append_left (List.getElem?_eq_some_iff.1 hv).1]
      exact hv

/-- What is known of a slice type and its elements. -/
structure Elem (P : Program) (t el : TypeId) (sh : Shp) (x0 : sh.T) (bytes : Nat) : Prop where
  all : ∃ ti z, P.underlying t = some (.slice el) ∧ P.info? el = some ti ∧ ti.zero = some z ∧ z.cells.toList = sh.cells x0 ∧ ti.size = sh.width ∧ ti.bytes = bytes

/-- One element more. -/
theorem ent_append1 {t ty el : TypeId} {sh : Shp} {x0 : sh.T} {bytes : Nat} (E : Elem P t el sh x0 bytes) (hp : sh.plain = true) (hw0 : 0 < sh.width) {s : Sl} {b : Nat} {t' : TypeId} {xs : List sh.T} {us : List Value} (y : sh.T) {r' : List HP} {K : Sl → World → Prop}
    (k : Take l (arr el sh s xs) r) (k2 : Take r (blk b t' us) r') (hu : us = sh.cells y) (hfit : (xs.length + 1) * bytes ≤ 140737488355328) (h63 : xs.length + 1 ≤ 4611686018427387904)
    (h : ∀ s', s'.len = xs.length + 1 → ent e (arr el sh s' (xs ++ [y]) :: r') (K s')) :
    ent e l ((wpM P).sem (Builtin.append_ #[t, t] ty #[.slice s.base s.len s.cap, .slice (some ⟨b, 0, none⟩) 1 1]) sS K) := by
  obtain ⟨ti, z, ht, hi, hz, hzc, hs, rfl⟩ := E.all
  subst hu
  refine ent_append (s2 := ⟨some ⟨b, 0, none⟩, 1, 1⟩) (ys := [y]) ht hi hz hs hp hw0 (by rw [← Array.length_toList, hzc, Shp.cells_length]) k rfl (Tells.blk k2 (by simp [cellsOf])) hfit h63 ?_
  intro s' hs'
  refine ent_sub ?_ (h s' hs')
  exact Sub.cons .here (Sub.trans (Sub.cons k2 .refl) (Sub.drop .refl))

/-- A slice's elements behind another's. -/
theorem ent_append2 {t ty el : TypeId} {sh : Shp} {x0 : sh.T} {bytes : Nat} (E : Elem P t el sh x0 bytes) (hp : sh.plain = true) (hw0 : 0 < sh.width) {s s2 : Sl} {xs ys : List sh.T} {r' : List HP} {K : Sl → World → Prop}
    (k : Take l (arr el sh s xs) r) (k2 : Take r (arr el sh s2 ys) r') (hfit : (xs.length + ys.length) * bytes ≤ 140737488355328) (h63 : xs.length + ys.length ≤ 4611686018427387904)
    (h : ∀ s', s'.len = xs.length + ys.length → ent e (arr el sh s' (xs ++ ys) :: r) (K s')) :
    ent e l ((wpM P).sem (Builtin.append_ #[t, t] ty #[.slice s.base s.len s.cap, .slice s2.base s2.len s2.cap]) sS K) := by
  obtain ⟨ti, z, ht, hi, hz, hzc, hs, rfl⟩ := E.all
  intro w hw
  have hr : Sat e r w := (show Sat e (arr el sh s xs :: r) w from ⟨hw.tape, hw.os, hw.output, cons_part (k.part hw.heap)⟩).drop
  have hn : s2.len = ys.length := by
    obtain ⟨a, b, s', hs', _⟩ := k2.part hr.heap
    rcases hs' with ⟨rfl, rfl, _⟩ | ⟨_, _, _, e2, _⟩
    · rfl
    · exact e2
  exact ent_append ht hi hz hs hp hw0 (by rw [← Array.length_toList, hzc, Shp.cells_length]) k hn (Tells.arr k2 w hr) hfit h63 h w hw

theorem ent_make' {t el : TypeId} {sh : Shp} {x0 : sh.T} {bytes : Nat} (E : Elem P t el sh x0 bytes) {kl kc : IntKind} {n c : Int} {K : Sl → World → Prop} (n' c' : Nat) (hn : n = n') (hc : c = c') (hnc : n' ≤ c') (hb : bytes * c' ≤ 281474976710656) (h63 : c' ≤ 9223372036854775807)
    (h : ∀ s, s.len = n' → s.cap = c' → ent e (arr el sh s (List.replicate n' x0) :: l) (K s)) : ent e l ((wpM P).sem (Instr.makeSlice t (.int kl n) (.int kc c)) sS K) := by
  obtain ⟨ti, z, ht, hi, hz, hzc, hs, rfl⟩ := E.all
  exact ent_make sh x0 ht hi hz hzc hs n' c' hn hc hnc hb h63 h

theorem ent_copy {t t2 ty el : TypeId} {sh : Shp} {x0 : sh.T} {bytes : Nat} (E : Elem P t el sh x0 bytes) (hp : sh.plain = true) (hw1 : sh.width = 1) {s s2 : Sl} {xs ys : List sh.T} {r' : List HP} {K : Int → World → Prop}
    (k : Take l (arr el sh s xs) r) (k2 : Take r (arr el sh s2 ys) r') (h : ent e (arr el sh s (ys.take (min ys.length xs.length) ++ xs.drop (min ys.length xs.length)) :: r) (K (min ys.length xs.length : Nat))) :
    ent e l ((wpM P).sem (Builtin.copy_ #[t, t2] ty #[.slice s.base s.len s.cap, .slice s2.base s2.len s2.cap]) sI K) := by
  obtain ⟨ti, z, ht, hi, hz, hzc, hs, rfl⟩ := E.all
  have hsz : (P.info? el).map (·.size) = some 1 := by rw [hi]; simp [hs, hw1]
  intro w hw
  have hr : Sat e r w := (show Sat e (arr el sh s xs :: r) w from ⟨hw.tape, hw.os, hw.output, cons_part (k.part hw.heap)⟩).drop
  have len : ∀ {l r : List HP} {s : Sl} {xs : List sh.T}, Take l (arr el sh s xs) r → Sat e l w → s.len = xs.length := by
    intro l r s xs k hw
    obtain ⟨a, b, s', hs', _⟩ := k.part hw.heap
    rcases hs' with ⟨rfl, rfl, _⟩ | ⟨_, _, _, e2, _⟩
    · rfl
    · exact e2
  have h1 := len k hw
  have h2 := len k2 hr
  by_cases hm : min ys.length xs.length = 0
  · rw [hm] at h
    refine runsTo_of_run (run_copy_none (P := P) w t t2 ty el s.base s2.base s.len s.cap s2.len s2.cap ht hsz (by rw [h1, h2]; exact hm)) ⟨0, by simp [goInt, Shp.inj, Kind.inj], ?_⟩
    simp only [List.take_zero, List.nil_append, List.drop_zero] at h
    exact h w ⟨hw.tape, hw.os, hw.output, cons_part (k.part hw.heap)⟩
  · have hc := hw
    refine ent_arr (x := fun w => RunsTo P (Builtin.copy_ #[t, t2] ty #[.slice s.base s.len s.cap, .slice s2.base s2.len s2.cap]) w fun v w' => ∃ x : Int, v = (Shp.one (.int .i64)).inj x ∧ K x w') k (fun e1 e2 => ?_) (fun g rest e1 e2 e3 => ?_) w hw
    · subst e2; simp at hm
    · intro w hw
      rcases Tells.arr k2 w hw.drop with ⟨_, _, _, hv⟩ | ⟨a, hb, hrow⟩
      · have : (cellsOf sh ys).length = 0 := by rw [hv]; rfl
        rw [cellsOf_length, hw1] at this
        omega
      · have e4 : s.base = some ⟨g, 0, none⟩ ∧ s.len = xs.length := by rw [e1]; exact ⟨rfl, rfl⟩
        rw [e4.1, e4.2, hb, h2]
        have htk : (cellsOf sh (ys.take (min ys.length xs.length))).length = min ys.length xs.length := by rw [cellsOf_length, hw1, List.length_take]; omega
        have hsp : cellsOf sh ys = cellsOf sh (ys.take (min ys.length xs.length)) ++ cellsOf sh (ys.drop (min ys.length xs.length)) := by rw [← cellsOf_append, List.take_append_drop]
        have hsx : cellsOf sh xs = cellsOf sh (xs.take (min ys.length xs.length)) ++ cellsOf sh (xs.drop (min ys.length xs.length)) := by rw [← cellsOf_append, List.take_append_drop]
        have htx : (cellsOf sh (xs.take (min ys.length xs.length))).length = min ys.length xs.length := by rw [cellsOf_length, hw1, List.length_take]; omega
        refine runsTo_of_run (run_copy_row (P := P) w t t2 ty el g 0 xs.length s.cap a ys.length s2.cap _ el (cellsOf sh (ys.take (min ys.length xs.length))) ht hsz (hw.block .here) htk (fun j v hv => hrow w hw.drop j v ?_) ?_ (cellsOf_one hp _)) ?_
        · rw [hsp, List.getElem?_append_left (List.getElem?_eq_some_iff.1 hv).1]; exact hv
        · rw [htk, List.size_toArray, List.length_append, cellsOf_length, hw1]; omega
        · rw [htk]
          refine ⟨_, by simp [goInt, Shp.inj, Kind.inj]; rfl, ?_⟩
          have hset := hw.setRow (us := (cellsOf sh xs ++ rest).take 0 ++ cellsOf sh (ys.take (min ys.length xs.length)) ++ (cellsOf sh xs ++ rest).drop (0 + min ys.length xs.length)) .here
          refine ent_sub (l := blk g el _ :: r) ?_ h _ hset
          have e5 : (cellsOf sh xs ++ rest).drop (0 + min ys.length xs.length) = cellsOf sh (xs.drop (min ys.length xs.length)) ++ rest := by
            rw [Nat.zero_add, hsx, List.append_assoc, List.drop_left' htx]
          rw [e5, e1]
          refine Sub.arr .here (by simp; omega) e2 ⟨rest, by simp [cellsOf_append]⟩ ?_ .refl
          simp only [List.length_append, cellsOf_length, hw1, List.length_take, List.length_drop, List.take_zero, List.length_nil] at e3 ⊢
          omega

end Hl
end Go.Proofs.Ytdmfnlcbfmahhaa
