/- What a call is handed: memory that was there is only read. -/
import Derived.Test.YtdmfnlcbfmahhaaLivesC
import Derived.Below
import Derived.Deep.Slices
namespace Go.Proofs.Ytdmfnlcbfmahhaa
namespace Hl
open Go Go.RowKit

variable {e : Still} {l r : List HP} {P : Program} {W : World}

/-- All blocks that were there, as they were. -/
def was (W : World) : HP := fun h => ∀ b, h b = if b < W.heap.size then W.heap[b]? else none

abbrev still (W : World) : Still := ⟨W.tape, W.os, W.output⟩

theorem sat_was (W : World) : Sat (still W) [was W] W := by
  refine ⟨rfl, rfl, rfl, ⟨heapOf W, fun _ => none, ⟨fun _ => .inr rfl, fun b => by simp⟩, star_emp_in fun b => ?_, trivial⟩⟩
  show W.heap[b]? = _
  split
  · rfl
  · exact Array.getElem?_eq_none (by omega)

theorem Sat.old {w : World} (h : Sat e l w) (k : Take l (was W) r) {b : Nat} (hb : b < W.heap.size) : w.heap[b]? = W.heap[b]? := by
  obtain ⟨h1, h2, s, hp, _⟩ := k.part h.heap
  have := s.whole b
  rw [hp b, if_pos hb, Array.getElem?_eq_getElem hb] at this
  have h' : w.heap[b]? = _ := this
  rw [h', Array.getElem?_eq_getElem hb]
  rfl

theorem Sat.below {w : World} (h : Sat (still W) l w) (k : Take l (was W) r) : Below W.heap.size W w := by
  refine ⟨h.os, h.tape, h.output, ?_, fun b hb => h.old k hb⟩
  refine Classical.byContradiction fun hlt => ?_
  have := h.old k (b := w.heap.size) (by omega)
  rw [Array.getElem?_eq_none (by omega), Array.getElem?_eq_getElem (by omega)] at this
  cases this

theorem Sat.oldRow {w : World} (h : Sat e l w) (k : Take l (was W) r) {a : Addr} (ha : a.block < W.heap.size) {vs : List Value} (hr : Hl.rowAt W a vs) : Hl.rowAt w a vs := by
  intro i v hv
  rw [World.cell?_of_block (w := W) (by rw [ChangeShapes.block_add]; exact h.old k ha)]
  exact hr i v hv

/-- A slice that came in reads as these. -/
structure Reads (W : World) (sh : Shp) (s : Sl) (xs : List sh.T) : Prop where
  len : s.len = xs.length
  rows : ∀ i x, xs[i]? = some x → ∃ a, s.base = some a ∧ a.block < W.heap.size ∧ Hl.rowAt W (a.add (i * sh.width)) (sh.cells x)

theorem ent_atW {sh : Shp} {s : Sl} {xs : List sh.T} {I : Int} {w : Nat} {fl : World → Prop} {K : Addr → sh.T → World → Prop} (i : Nat) (x : sh.T) (R : Reads W sh s xs) (hI : I = i) (hx : xs[i]? = some x)
    (h : ∀ a, a.block < W.heap.size → Hl.rowAt W (a.add (I.toNat * w)) (sh.cells x) → ent e l (K a x)) (k : Take l (was W) r := by with_reducible first | assumption | ((repeat (first | exact .here | apply Take.there)); done)) (hw : w = sh.width := by rfl) :
    ent e l ((wpM P).guard (0 ≤ I ∧ I < (s.len : Int)) (dr fl s.base fun a => (wpM P).load sh (a.add (I.toNat * w)) (K a))) := by
  subst hI hw
  have hi := (List.getElem?_eq_some_iff.1 hx).1
  obtain ⟨a, ha, hb, hr⟩ := R.rows i x hx
  refine ent_guard ⟨by omega, by have := R.len; omega⟩ ?_
  rw [ha]
  intro ww hw
  refine ⟨x, hw.oldRow k (by rw [ChangeShapes.block_add]; exact hb) ?_, h a hb (by rw [Int.toNat_natCast]; exact hr) ww hw⟩
  rw [Int.toNat_natCast]; exact hr

theorem ent_keepW {a : Addr} {vs : List Value} {fs : List (Addr × List Value)} {x : World → Prop} (hr : Hl.rowAt W a vs) (ha : a.block < W.heap.size) (h : ent e l ((wpM P).keep fs x)) (k : Take l (was W) r := by with_reducible first | assumption | ((repeat (first | exact .here | apply Take.there)); done)) : ent e l ((wpM P).keep ((a, vs) :: fs) x) :=
  ent_keepS (fun w hw => hw.oldRow k ha hr) h

theorem ent_done {x : World → Prop} (h : ∀ w, Below W.heap.size W w → x w) (k : Take l (was W) r := by with_reducible first | assumption | ((repeat (first | exact .here | apply Take.there)); done)) : ent (still W) l x := fun w hw => h w (hw.below k)

end Hl
end Go.Proofs.Ytdmfnlcbfmahhaa
