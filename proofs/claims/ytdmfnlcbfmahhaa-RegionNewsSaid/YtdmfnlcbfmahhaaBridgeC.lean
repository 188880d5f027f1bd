/- From the statements' data to the evaluator's. -/
import Derived.Test.YtdmfnlcbfmahhaaInC
import Derived.Test.YtdmfnlcbfmahhaaRows
import Derived.ProofKit
import Derived.OpenShut
import Derived.ChangeOld
namespace Go.Proofs.Ytdmfnlcbfmahhaa
open Go Hl Go.RowKit Go.ChangeShapes Go.WideShapes
set_option maxRecDepth 100000

variable {H : Type} {enc : TypeId × Value → H} {W : World} {base : Nat} {spare : Nat → Bool} {held : Bool}

/-- Cells that hold numbers of these kinds. -/
def Ints (iks : List IntKind) (cs : List Value) : Prop := cs.length = iks.length ∧ ∀ (i : Nat) (k : IntKind), iks[i]? = some k → ∃ n : Int, cs[i]? = some (Value.int k n) ∧ (Lit.int k n).wf = true

noncomputable def okFields (iks : List IntKind) (t : TypeId) : Bool :=
  match PR.underlying t with
  | some (.struct fs) => ((List.range iks.length).all fun i => match fs[i]?, iks[i]? with
      | some f, some k => (f.offset == i) && (PR.cellsOf f.type == 1) && (match PR.underlying f.type with | some (.int k') => decide (k' = k) | _ => false)
      | _, _ => false) && (PR.cellsOf t == iks.length)
  | _ => false

theorem okFields_el {iks : List IntKind} {t : TypeId} (h : okFields iks t = true) : ∃ fs : Array Field, PR.underlying t = some (.struct fs) ∧ PR.cellsOf t = iks.length ∧
    ∀ (i : Nat) (k : IntKind), iks[i]? = some k → ∃ f : Field, fs[i]? = some f ∧ f.offset = i ∧ PR.cellsOf f.type = 1 ∧ PR.underlying f.type = some (.int k) := by
  unfold okFields at h
  split at h
  · rename_i fs hfs
    rw [Bool.and_eq_true, List.all_eq_true] at h
    refine ⟨fs, hfs, eq_of_beq h.2, fun i k hk => ?_⟩
    have hi := (List.getElem?_eq_some_iff.1 hk).1
    have := h.1 i (List.mem_range.2 hi)
    split at this
    · rename_i f k' hf hk'
      rw [hk] at hk'
      cases hk'
      simp only [Bool.and_eq_true] at this
      obtain ⟨⟨a, b⟩, c⟩ := this
      refine ⟨f, hf, eq_of_beq a, eq_of_beq b, ?_⟩
      split at c
      · rename_i k'' hu
        rw [of_decide_eq_true c] at hu; exact hu
      · cases c
    · cases this
  · cases h

theorem ints_of_struct {iks : List IntKind} {t : TypeId} {fuel : Nat} {cs : List Value} {x : DataW H × List MemPlace} (hok : okFields iks t = true) (h : DataW.trod enc PR W base spare held fuel t cs = some x) : Ints iks cs := by
  obtain ⟨fs, ht, hc, hf⟩ := okFields_el hok
  obtain ⟨xs, n, _, _, hl, hxs, hall⟩ := DataW.trod_struct ht h
  refine ⟨hl.trans hc, fun i k hk => ?_⟩
  obtain ⟨f, h1, h2, h3, h4⟩ := hf i k hk
  have := hall i f h1
  rw [h2, h3] at this
  have hi : i < xs.length := by rw [hxs]; exact (Array.getElem?_eq_some_iff.1 h1).1
  rw [List.getElem?_eq_getElem hi] at this
  obtain ⟨m, hm, _, hw⟩ := DataW.trod_int h4 this
  refine ⟨m, ?_, hw⟩
  have h0 : ((cs.drop i).take 1)[0]? = some (.int k m) := by rw [hm]; rfl
  rw [List.getElem?_take_of_lt (by omega), List.getElem?_drop] at h0
  exact h0

theorem ints_row : ∀ {iks : List IntKind} {cs : List Value}, Ints iks cs → ∃ x : Row (iks.map Kind.int), cs = Row.vals (iks.map Kind.int) x
  | [], cs, h => ⟨(), List.eq_nil_of_length_eq_zero h.1⟩
  | k :: ks, [], h => by have := h.1; simp at this
  | k :: ks, c :: cs, h => by
    obtain ⟨n, hn, _⟩ := h.2 0 k rfl
    obtain ⟨x, hx⟩ := ints_row (iks := ks) (cs := cs) ⟨by have := h.1; simpa using this, fun i k' hk => h.2 (i + 1) k' hk⟩
    have hc : c = .int k n := by simpa using hn
    exact ⟨(n, x), by rw [hc, hx]; rfl⟩

theorem cells_rowAt {b : Nat} {a : Addr} {n : Nat} {cs : List Value} (h : W.cells? b a n = some cs) : Hl.rowAt W a cs := by
  obtain ⟨_, hl, hc⟩ := World.cells?_some h
  intro i v hv
  have hi := (List.getElem?_eq_some_iff.1 hv).1
  rw [hc i (by omega)]; exact hv

theorem rowAt_block {a : Addr} {v : Value} {vs : List Value} (h : Hl.rowAt W a (v :: vs)) : a.block < W.heap.size := by
  have := h 0 v rfl
  refine Classical.byContradiction fun hb => ?_
  have hn : W.heap[(a.add 0).block]? = none := by rw [block_add]; exact Array.getElem?_eq_none (by omega)
  simp [World.cell?, hn] at this

/-- A slice of structs of numbers reads as a list. -/
theorem reads_structs {k : IntKind} {iks : List IntKind} {t el : TypeId} {a : Option Addr} {len cap : Nat} {d : DataW H} {p : List MemPlace} (ht : PR.underlying t = some (.slice el)) (hok : okFields (k :: iks) el = true)
    (h : DataW.Trod enc PR W 0 (fun _ => true) true t (.slice a len cap) d p) : ∃ xs : List (Row ((k :: iks).map Kind.int)), Reads W (.agg ((k :: iks).map Kind.int)) ⟨a, len, cap⟩ xs := by
  obtain ⟨fuel, hf⟩ := h
  obtain ⟨_, _, hc, _⟩ := okFields_el hok
  rcases Go.Deep.open_slice ht hf with ⟨h0, _⟩ | ⟨a', len', cap', m, n, D, Pl, h0, _, hl, _, hm, _, hx⟩
  · have h0 : [Value.slice a len cap] = [.slice none 0 0] := h0
    injection h0 with h0 _
    injection h0 with e1 e2 e3
    subst e1 e2 e3
    exact ⟨[], rfl, fun i x hx => by simp at hx⟩
  · have h0 : [Value.slice a len cap] = [.slice (some a') len' cap'] := h0
    injection h0 with h0 _
    injection h0 with e1 e2 e3
    subst e1 e2 e3
    have hm' : m = cap := hm
    subst hm'
    have hx' : ∀ i, i < len → ∃ x : Row ((k :: iks).map Kind.int), Hl.rowAt W (a'.add (i * ((k :: iks).map Kind.int).length)) (Row.vals _ x) := fun i hi => by
      obtain ⟨cs', h1, h2⟩ := hx i (by omega)
      obtain ⟨x, rfl⟩ := ints_row (ints_of_struct hok h2)
      refine ⟨x, ?_⟩
      rw [hc] at h1
      rw [List.length_map]
      exact cells_rowAt h1
    by_cases h00 : 0 < len
    rotate_left
    · obtain rfl : len = 0 := by omega
      exact ⟨[], rfl, fun i x hx => by simp at hx⟩
    obtain ⟨x0, _⟩ := hx' 0 h00
    obtain ⟨f, hf⟩ : ∃ f : Nat → Row ((k :: iks).map Kind.int), ∀ i, i < len → Hl.rowAt W (a'.add (i * ((k :: iks).map Kind.int).length)) (Row.vals _ (f i)) := by
      refine ⟨fun i => if h : i < len then (hx' i h).choose else x0, fun i hi => ?_⟩
      simp only [hi, dif_pos]
      exact (hx' i hi).choose_spec
    refine ⟨tab len f, (tab_len).symm, fun i x hx => ⟨a', rfl, ?_, ?_⟩⟩
    · have hi := (List.getElem?_eq_some_iff.1 hx).1
      rw [tab_len] at hi
      have := rowAt_block (hf i hi)
      rw [block_add] at this; exact this
    · have hi := (List.getElem?_eq_some_iff.1 hx).1
      rw [tab_len] at hi
      rw [tab_get hi] at hx
      cases hx
      exact hf i hi

theorem config_open {v : Value} {d : DataW H} {p : List MemPlace} (hv : Value.okWide PR W .any base 24 v) (h : DataW.Trod enc PR W 0 (fun _ => true) true 24 v d p) :
    ∃ x y z : Int, v = .agg #[vU x, vI y, vI z] ∧ 0 ≤ x ∧ x < 18446744073709551616 := by
  have hok : okFields [.u64, .i64, .i64] 24 = true := by kernel_rfl
  obtain ⟨fs, ht, hc, _⟩ := okFields_el hok
  obtain ⟨cs, rfl, hsz⟩ := okWide_struct ht hv
  obtain ⟨fuel, hf⟩ := h
  have hI : Ints [.u64, .i64, .i64] cs.toList := ints_of_struct hok hf
  obtain ⟨x, h0, w0⟩ := hI.2 0 .u64 rfl
  obtain ⟨y, h1, _⟩ := hI.2 1 .i64 rfl
  obtain ⟨z, h2, _⟩ := hI.2 2 .i64 rfl
  have hb := bounds_u64 w0
  refine ⟨x, y, z, ?_, by omega, by omega⟩
  have hl : cs.toList.length = 3 := hI.1
  match hcs : cs.toList, hl with
  | [a, b, c], _ =>
    rw [hcs] at h0 h1 h2
    have g0 : a = Value.int .u64 x := by simpa using h0
    have g1 : b = Value.int .i64 y := by simpa using h1
    have g2 : c = Value.int .i64 z := by simpa using h2
    subst g0 g1 g2
    rw [← Array.toArray_toList (xs := cs), hcs]

theorem laidOut : laidOutB PR = true := by kernel_rfl
theorem ownNone : ownKnob PR.godebug = none := by kernel_rfl

end Go.Proofs.Ytdmfnlcbfmahhaa
