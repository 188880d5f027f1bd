/- Statements on memory, block by block; rules for the evaluator's terms. -/
import Derived.Test.YtdmfnlcbfmahhaaHlCode
namespace Go.Proofs.Ytdmfnlcbfmahhaa
namespace Hl
open Go

/-! ## Parts of a heap -/

abbrev Heap := Nat → Option Obj
abbrev HP := Heap → Prop

def heapOf (w : World) : Heap := fun b => w.heap[b]?

def emp : HP := fun h => ∀ b, h b = none
def pto (b : Nat) (o : Obj) : HP := fun h => h b = some o ∧ ∀ b', b' ≠ b → h b' = none

structure Splits (h h1 h2 : Heap) : Prop where
  apart : ∀ b, h1 b = none ∨ h2 b = none
  whole : ∀ b, h b = (h1 b).or (h2 b)

def star (p q : HP) : HP := fun h => ∃ h1 h2, Splits h h1 h2 ∧ p h1 ∧ q h2

def stars : List HP → HP
  | [] => emp
  | p :: ps => star p (stars ps)

theorem Splits.symm {h h1 h2 : Heap} (s : Splits h h1 h2) : Splits h h2 h1 := by
  refine ⟨fun b => (s.apart b).symm, fun b => ?_⟩
  rw [s.whole b]
  rcases s.apart b with e | e <;> simp [e]

theorem star_comm {p q : HP} {h : Heap} (x : star p q h) : star q p h := by
  obtain ⟨h1, h2, s, hp, hq⟩ := x
  exact ⟨h2, h1, s.symm, hq, hp⟩

theorem star_assoc {p q r : HP} {h : Heap} (x : star p (star q r) h) : star (star p q) r h := by
  obtain ⟨h1, h2, s, hp, h3, h4, s', hq, hr⟩ := x
  refine ⟨fun b => (h1 b).or (h3 b), h4, ⟨fun b => ?_, fun b => ?_⟩, ⟨h1, h3, ⟨fun b => ?_, fun _ => rfl⟩, hp, hq⟩, hr⟩
  · rcases s.apart b with e | e
    · rcases s'.apart b with e' | e'
      · left; simp [e, e']
      · exact .inr e'
    · have := s'.whole b; rw [e] at this
      exact .inr (Option.or_eq_none_iff.1 this.symm).2
  · rw [s.whole b, s'.whole b, Option.or_assoc]
  · rcases s.apart b with e | e
    · exact .inl e
    · have := s'.whole b; rw [e] at this
      exact .inr (Option.or_eq_none_iff.1 this.symm).1

theorem star_mono {p p' q q' : HP} (hp : ∀ h, p h → p' h) (hq : ∀ h, q h → q' h) {h : Heap} (x : star p q h) : star p' q' h := by
  obtain ⟨h1, h2, s, a, b⟩ := x
  exact ⟨h1, h2, s, hp _ a, hq _ b⟩

theorem star_assoc' {p q r : HP} {h : Heap} (x : star (star p q) r h) : star p (star q r) h :=
  star_comm (star_mono (fun _ y => star_comm y) (fun _ y => y) (star_assoc (star_mono (fun _ y => y) (fun _ y => star_comm y) (star_comm x))))

theorem star_swap {p q r : HP} {h : Heap} (x : star p (star q r) h) : star q (star p r) h :=
  star_assoc' (star_mono (fun _ y => star_comm y) (fun _ y => y) (star_assoc x))

theorem star_emp {p : HP} {h : Heap} (x : star p emp h) : p h := by
  obtain ⟨h1, h2, s, a, b⟩ := x
  have : h = h1 := by
    funext c; rw [s.whole c, b c]; simp
  rw [this]; exact a

theorem emp_star {p : HP} {h : Heap} (x : p h) : star emp p h :=
  ⟨fun _ => none, h, ⟨fun _ => .inl rfl, fun b => by simp⟩, fun _ => rfl, x⟩

theorem star_emp_in {p : HP} {h : Heap} (x : p h) : star p emp h := star_comm (emp_star x)

theorem stars_append {ps qs : List HP} {h : Heap} : stars (ps ++ qs) h ↔ star (stars ps) (stars qs) h := by
  induction ps generalizing h with
  | nil => exact ⟨emp_star, fun x => star_emp (star_comm x)⟩
  | cons p ps ih =>
    constructor
    · intro x; exact star_assoc (star_mono (fun _ y => y) (fun _ y => ih.1 y) x)
    · intro x; exact star_mono (fun _ y => y) (fun _ y => ih.2 y) (star_assoc' x)

/-- One part taken out of a list. -/
inductive Take : List HP → HP → List HP → Prop where
  | here {p : HP} {l : List HP} : Take (p :: l) p l
  | there {p q : HP} {l r : List HP} (h : Take l p r) : Take (q :: l) p (q :: r)

theorem Take.stars {l r : List HP} {p : HP} (t : Take l p r) {h : Heap} (x : stars l h) : star p (stars r) h := by
  induction t generalizing h with
  | here => exact x
  | there _ ih => exact star_swap (star_mono (fun _ y => y) (fun _ y => ih y) x)

theorem Take.back {l r : List HP} {p : HP} (t : Take l p r) {h : Heap} (x : star p (Hl.stars r) h) : Hl.stars l h := by
  induction t generalizing h with
  | here => exact x
  | there _ ih => exact star_mono (fun _ y => y) (fun _ y => ih y) (star_swap x)

/-! ## Worlds -/

structure Still where
  tape : Nat → Question → Nat
  os : Os
  output : Array (Nat × ByteArray)

def any : HP := fun _ => True

/-- The list's parts, apart, and whatever else. -/
def part (l : List HP) : HP := star (stars l) any

structure Sat (e : Still) (l : List HP) (w : World) : Prop where
  tape : w.tape = e.tape
  os : w.os = e.os
  output : w.output = e.output
  heap : part l (heapOf w)

def ent (e : Still) (l : List HP) (x : World → Prop) : Prop := ∀ w, Sat e l w → x w

variable {e : Still} {l r : List HP} {P : Program}

theorem Sat.drew {w : World} (h : Sat e l w) : Sat e l w.drew := ⟨h.tape, h.os, h.output, h.heap⟩

theorem Sat.mono {l' : List HP} {w : World} (h : Sat e l w) (hl : ∀ h, stars l h → stars l' h) : Sat e l' w := ⟨h.tape, h.os, h.output, star_mono hl (fun _ y => y) h.heap⟩

theorem part_cons {p : HP} {l : List HP} {h : Heap} (x : part (p :: l) h) : star p (part l) h := star_assoc' x

theorem cons_part {p : HP} {l : List HP} {h : Heap} (x : star p (part l) h) : part (p :: l) h := star_assoc x

theorem Sat.drop {p : HP} {l : List HP} {e : Still} {w : World} (h : Sat e (p :: l) w) : Sat e l w :=
  ⟨h.tape, h.os, h.output, star_mono (fun _ y => y) (fun _ _ => trivial) (star_swap (part_cons h.heap))⟩

theorem Take.part {l r : List HP} {p : HP} (t : Take l p r) {h : Heap} (x : part l h) : star p (Hl.part r) h := part_cons (star_mono (fun _ y => t.stars y) (fun _ y => y) x)

theorem ent_mono {l' : List HP} {x : World → Prop} (hl : ∀ h, stars l h → stars l' h) (h : ent e l' x) : ent e l x := fun w hw => h w (hw.mono hl)

theorem ent_drop {p : HP} {x : World → Prop} (h : ent e l x) : ent e (p :: l) x := fun w hw => h w hw.drop

theorem ent_take {p : HP} {x : World → Prop} (t : Take l p r) (h : ent e (p :: r) x) : ent e l x := ent_mono (l' := p :: r) (fun _ y => t.stars y) h

theorem ent_untake {p : HP} {x : World → Prop} (t : Take l p r) (h : ent e l x) : ent e (p :: r) x := ent_mono (l := p :: r) (fun _ y => t.back y) h

/-- A block of cells that may be written. -/
def blk (b : Nat) (t : TypeId) (vs : List Value) : HP := pto b (.cells vs.toArray t (0, 0))

theorem star_pto {b : Nat} {o : Obj} {q : HP} {h : Heap} (x : star (pto b o) q h) : h b = some o := by
  obtain ⟨h1, h2, s, a, _⟩ := x
  rw [s.whole b, a.1]; rfl

theorem Sat.block {b : Nat} {t : TypeId} {vs : List Value} {w : World} (h : Sat e l w) (k : Take l (blk b t vs) r) : w.heap[b]? = some (.cells vs.toArray t (0, 0)) :=
  star_pto (k.part h.heap)

theorem cell_of {b : Nat} {t : TypeId} {vs : List Value} {w : World} (h : w.heap[b]? = some (.cells vs.toArray t (0, 0))) (i : Nat) : w.cell? ⟨b, i, none⟩ = vs[i]? := by
  simp [World.cell?, h]

theorem add_mk (b o n : Nat) : (⟨b, o, none⟩ : Addr).add n = ⟨b, o + n, none⟩ := by
  unfold Addr.add; split
  · rename_i h; subst h; rfl
  · rfl

theorem Sat.rowAt {b off : Nat} {t : TypeId} {vs us : List Value} {w : World} (h : Sat e l w) (k : Take l (blk b t vs) r) (hu : ∀ i v, us[i]? = some v → vs[off + i]? = some v) : rowAt w ⟨b, off, none⟩ us := by
  intro i v hv
  rw [add_mk, cell_of (h.block k)]
  exact hu i v hv

/-! ## Rules -/

theorem ent_draw {x : World → Prop} (h : ent e l x) : ent e l ((wpM P).draw x) := fun w hw => h _ hw.drew

theorem ent_guard {p : Prop} {x : World → Prop} (hp : p) (h : ent e l x) : ent e l ((wpM P).guard p x) := fun w hw => ⟨hp, h w hw⟩

theorem ent_cond {b : Bool} {x y : World → Prop} (h1 : b = true → ent e l x) (h2 : b = false → ent e l y) : ent e l (bif b then x else y) := by
  cases b
  · exact h2 rfl
  · exact h1 rfl

theorem ent_join {ss : List Shp} {f : Tup ss → World → Prop} {g : (Tup ss → World → Prop) → World → Prop} (h : ent e l (g f)) : ent e l ((wpM P).join ss f g) := h

theorem ent_both {x y : World → Prop} (h1 : ent e l x) (h2 : ent e l y) : ent e l ((wpM P).both x y) := fun w hw => ⟨h1 w hw, h2 w hw⟩

theorem ent_load {b off : Nat} {t : TypeId} {vs : List Value} {s : Shp} {K : s.T → World → Prop} (x : s.T) (k : Take l (blk b t vs) r)
    (hv : ∀ i v, (s.cells x)[i]? = some v → vs[off + i]? = some v) (h : ent e l (K x)) : ent e l ((wpM P).load s ⟨b, off, none⟩ K) :=
  fun w hw => ⟨x, hw.rowAt k hv, h w hw⟩

theorem ent_load1 {b off : Nat} {t : TypeId} {vs : List Value} {kd : Kind} {K : kd.T → World → Prop} (x : kd.T) (k : Take l (blk b t vs) r)
    (hv : vs[off]? = some (kd.inj x)) (h : ent e l (K x)) : ent e l ((wpM P).load (.one kd) ⟨b, off, none⟩ K) :=
  ent_load (s := .one kd) x k (fun i v hi => by
    cases i with
    | zero => simp [Shp.cells] at hi; rw [← hi]; simpa using hv
    | succ i => simp [Shp.cells] at hi) h

theorem ent_index {kd : Kind} {cs : List Value} {i : Int} {K : kd.T → World → Prop} (x : kd.T) (h0 : 0 ≤ i) (hv : cs[i.toNat]? = some (kd.inj x)) (h : ent e l (K x)) : ent e l ((wpM P).index kd cs i K) :=
  fun w hw => ⟨x, h0, hv, h w hw⟩

/-- The heap of a world, with one block other. -/
theorem heap_set {w : World} {b : Nat} {o o' : Obj} {q : HP} (h : star (pto b o) q (heapOf w)) {w' : World} (hw : ∀ c, w'.heap[c]? = if c = b then some o' else w.heap[c]?) : star (pto b o') q (heapOf w') := by
  obtain ⟨h1, h2, s, a, hq⟩ := h
  refine ⟨fun c => if c = b then some o' else none, h2, ⟨fun c => ?_, fun c => ?_⟩, ⟨by simp, fun c hc => by simp [hc]⟩, hq⟩
  · by_cases hc : c = b
    · subst hc
      rcases s.apart c with e | e
      · rw [a.1] at e; cases e
      · exact .inr e
    · left; simp [hc]
  · show w'.heap[c]? = _
    rw [hw c]
    by_cases hc : c = b
    · simp [hc]
    · simp only [hc, if_false, Option.none_or]
      have := s.whole c
      rw [a.2 c hc] at this
      simpa [heapOf] using this

theorem setCell_heap {w : World} {b off : Nat} {t : TypeId} {vs : List Value} {v : Value} (h : w.heap[b]? = some (.cells vs.toArray t (0, 0))) (c : Nat) :
    (w.setCell ⟨b, off, none⟩ v).heap[c]? = if c = b then some (.cells (vs.set off v).toArray t (0, 0)) else w.heap[c]? := by
  simp only [World.setCell, Array.getElem?_modify]
  by_cases hc : b = c
  · subst hc
    simp [h]
  · simp [hc, Ne.symm hc]

theorem Sat.setCell {b off : Nat} {t : TypeId} {vs : List Value} {v : Value} {w : World} (h : Sat e l w) (k : Take l (blk b t vs) r) : Sat e (blk b t (vs.set off v) :: r) (w.setCell ⟨b, off, none⟩ v) :=
  ⟨h.tape, h.os, h.output, cons_part (heap_set (k.part h.heap) (setCell_heap (h.block k)))⟩

def putAt (vs : List Value) (off : Nat) : List Value → List Value
  | [] => vs
  | u :: us => putAt (vs.set off u) (off + 1) us

theorem putAt_length (us : List Value) : ∀ (vs : List Value) (off : Nat), (putAt vs off us).length = vs.length := by
  induction us with
  | nil => intro vs off; rfl
  | cons u us ih => intro vs off; simp [putAt, ih]

theorem run_storeCells {b : Nat} {t : TypeId} {x : World → Prop} (us : List Value) : ∀ (off : Nat) (i : Nat) (l r : List HP) (vs : List Value), Take l (blk b t vs) r → (∀ u, u ∈ us → u.oneCell' = true) →
    off + i + us.length ≤ vs.length → ent e (blk b t (putAt vs (off + i) us) :: r) x → ent e l fun w => RunsTo P (storeCells ⟨b, off, none⟩ us i) w fun _ => x := by
  induction us with
  | nil =>
    intro off i l r vs k _ _ h w hw
    simp only [storeCells, RunsTo, Sem.run_pure]
    exact ent_take k h w hw
  | cons u us ih =>
    intro off i l r vs k h1 hl h w hw
    simp only [storeCells]
    have hb := hw.block k
    have hlt : off + i < vs.length := by simp at hl; omega
    have hc : w.cell? ((⟨b, off, none⟩ : Addr).add i) = some vs[off + i] := by rw [add_mk, cell_of hb]; exact List.getElem?_eq_getElem hlt
    have hfz : w.frozen? ((⟨b, off, none⟩ : Addr).add i) = false := by rw [add_mk]; simp [World.frozen?, hb]
    have hrun : (store ((⟨b, off, none⟩ : Addr).add i) u).run P w = .ok () (w.setCell ((⟨b, off, none⟩ : Addr).add i) u) := by
      rw [run_store _ _ _ _ _ (h1 u List.mem_cons_self)]
      simp [hc, hfz]
    rw [runsTo_bind]
    refine runsTo_of_run hrun ?_
    rw [add_mk]
    exact ih off (i + 1) (blk b t (vs.set (off + i) u) :: r) r (vs.set (off + i) u) .here (fun v hv => h1 v (List.mem_cons_of_mem _ hv)) (by simp at hl ⊢; omega)
      (by rw [show off + (i + 1) = off + i + 1 by omega]; exact h) _ (hw.setCell k)

theorem ent_store {b off : Nat} {t : TypeId} {vs us : List Value} {x : World → Prop} (k : Take l (blk b t vs) r) (h1 : ∀ u, u ∈ us → u.oneCell' = true) (hl : off + us.length ≤ vs.length)
    (h : ent e (blk b t (putAt vs off us) :: r) x) : ent e l ((wpM P).store ⟨b, off, none⟩ us x) :=
  run_storeCells us off 0 l r vs k h1 hl h

theorem heap_new {w : World} {o : Obj} {q : HP} (h : q (heapOf w)) : star (pto w.heap.size o) q (heapOf (w.alloc o)) := by
  refine ⟨fun c => if c = w.heap.size then some o else none, heapOf w, ⟨fun c => ?_, fun c => ?_⟩, ⟨by simp, fun c hc => by simp [hc]⟩, h⟩
  · by_cases hc : c = w.heap.size
    · right; subst hc; simp [heapOf]
    · left; simp [hc]
  · show (w.heap.push o)[c]? = _
    rw [Array.getElem?_push]
    by_cases hc : c = w.heap.size <;> simp [hc, heapOf]

theorem Sat.alloc {w : World} (h : Sat e l w) (o : Obj) : Sat e (pto w.heap.size o :: l) (w.alloc o) := ⟨h.tape, h.os, h.output, cons_part (heap_new h.heap)⟩

theorem ent_new {t : TypeId} {vs : List Value} {K : Nat → World → Prop} (h : ∀ b, ent e (blk b t vs :: l) (K b)) : ent e l ((wpM P).new t vs K) :=
  fun w hw => h w.heap.size _ (hw.alloc _)

theorem ent_loop {ss : List Shp} {r₀ : Tup ss} {body : (Tup ss → World → Prop) → Tup ss → World → Prop} {S : Type} (row : S → Tup ss) (res : S → List HP) (ok : S → Prop) (m : S → Nat) (s₀ : S)
    (hr : r₀ = row s₀) (hok : ok s₀) (hl : ∀ h, stars l h → stars (res s₀) h)
    (step : ∀ (k : Tup ss → World → Prop) (s : S), ok s → (∀ s', ok s' → m s' < m s → ent e (res s') (k (row s'))) → ent e (res s) (body k (row s))) : ent e l ((wpM P).loop ss r₀ body) := by
  intro w hw
  refine ⟨S, fun s x w => ok s ∧ x = row s ∧ Sat e (res s) w, m, s₀, ⟨hok, hr, hw.mono hl⟩, ?_⟩
  rintro s x w ⟨hs, rfl, hw⟩
  exact step (fun r' w' => ∃ s', (ok s' ∧ r' = row s' ∧ Sat e (res s') w') ∧ m s' < m s) s hs (fun s' hs' hm w' hw' => ⟨s', ⟨hs', rfl, hw'⟩, hm⟩) w hw

theorem ent_keep' {fs : List (Addr × List Value)} {x : World → Prop} (hf : ∀ w, Sat e l w → ∀ y, y ∈ fs → rowAt w y.1 y.2) (h : ent e l x) : ent e l ((wpM P).keep fs x) := fun w hw => ⟨hf w hw, h w hw⟩

/-! ## Calls -/

/-- A call's result, taken apart. -/
def getVals : (ss : List Shp) → List Value → (Tup ss → World → Prop) → World → Prop
  | [], [], K => K ()
  | s :: ss, v :: vs, K => getShp (wpM default) s (some v) fun x => getVals ss vs fun r => K (x, r)
  | _, _, _ => fun _ => False

def getRes (ss : List Shp) (v : Value) (K : Tup ss → World → Prop) : World → Prop :=
  match ss, K with
  | [s], K => getShp (wpM default) s (some v) fun x => K (x, ())
  | ss, K => match v with
    | .tuple vs => getVals ss vs.toList K
    | _ => fun _ => False

theorem getVals_el : ∀ {ss : List Shp} {vs : List Value} {K : Tup ss → World → Prop} {w : World}, getVals ss vs K w → ∃ r, vs = Tup.vals ss r ∧ K r w
  | [], [], _, _, h => ⟨(), rfl, h⟩
  | [], _ :: _, _, _, h => h.elim
  | _ :: _, [], _, _, h => h.elim
  | s :: ss, v :: vs, K, w, h => by
    obtain ⟨x, hx, h⟩ := getShp_el h
    obtain ⟨r, hr, h⟩ := getVals_el h
    exact ⟨(x, r), by rw [Option.some.inj hx, hr]; rfl, h⟩

theorem getRes_el {ss : List Shp} {v : Value} {K : Tup ss → World → Prop} {w : World} (h : getRes ss v K w) : ∃ r, v = Tup.result ss r ∧ K r w := by
  match ss, K, h with
  | [s], K, h =>
    obtain ⟨x, hx, h⟩ := getShp_el h
    exact ⟨(x, ()), Option.some.inj hx, h⟩
  | [], K, h =>
    cases v with
    | tuple vs =>
      obtain ⟨r, hr, h⟩ := getVals_el (ss := []) h
      exact ⟨r, congrArg Value.tuple (Array.toList_inj.1 hr), h⟩
    | _ => exact h.elim
  | s :: s' :: ss, K, h =>
    cases v with
    | tuple vs =>
      obtain ⟨r, hr, h⟩ := getVals_el (ss := s :: s' :: ss) h
      refine ⟨r, ?_, h⟩
      have : vs = (Tup.vals (s :: s' :: ss) r).toArray := Array.toList_inj.1 (by rw [hr])
      rw [this]; rfl
    | _ => exact h.elim

theorem ent_call {f : FuncId} {fn : Func} {args : List Value} {ss : List Shp} {K : Tup ss → World → Prop} {KP : List PanicEntry → World → Prop} (hf : P.funcs[f]? = some fn)
    (h : ent e l (funcF (wpM P) P fn args (fun v => getRes ss v K) KP)) : ent e l ((wpM P).call f args ss K KP) := by
  intro w hw
  refine (funcF_sound hf (h w hw)).mono ?_
  intro en w' hr
  cases en with
  | returned v => exact getRes_el hr
  | panicked c => exact hr
  | outgrown => exact hr

end Hl
end Go.Proofs.Ytdmfnlcbfmahhaa
