/- The simulated memory: what stands for it, and rules to read and write it. -/
import Derived.Test.YtdmfnlcbfmahhaaHlArith
namespace Go.Proofs.Ytdmfnlcbfmahhaa
namespace Hl
open Go

variable {e : Still} {l r : List HP} {P : Program}

/-! ## Blocks of bytes, one behind another -/

def bytesOf (size : Nat) (mem : Nat → Nat) (k : Nat) : List Value := (List.range size).map fun i => v8 (mem (k * size + i))

theorem bytesOf_length (size : Nat) (mem : Nat → Nat) (k : Nat) : (bytesOf size mem k).length = size := by simp [bytesOf]

theorem bytesOf_get {size : Nat} {mem : Nat → Nat} {k i : Nat} (h : i < size) : (bytesOf size mem k)[i]? = some (v8 (mem (k * size + i))) := by
  simp [bytesOf, h]

def mems (t : TypeId) (gs : List Nat) (size : Nat) (mem : Nat → Nat) : HP := fun h =>
  (∀ k g, gs[k]? = some g → h g = some (.cells (bytesOf size mem k).toArray t (0, 0))) ∧ gs.Nodup ∧ ∀ b, b ∉ gs → h b = none

theorem Sat.mem {t : TypeId} {gs : List Nat} {size : Nat} {mem : Nat → Nat} {w : World} (h : Sat e l w) (k : Take l (mems t gs size mem) r) {q g : Nat} (hg : gs[q]? = some g) :
    w.heap[g]? = some (.cells (bytesOf size mem q).toArray t (0, 0)) := by
  obtain ⟨a, b, s, ha, _⟩ := k.part h.heap
  have := s.whole g
  rw [ha.1 q g hg] at this
  exact this

theorem ent_mem_load {t : TypeId} {gs : List Nat} {size : Nat} {mem : Nat → Nat} {q g i : Nat} {K : Int → World → Prop} (k : Take l (mems t gs size mem) r) (hg : gs[q]? = some g) (hi : i < size)
    (h : ent e l (K (mem (q * size + i)))) : ent e l ((wpM P).load s8 ⟨g, i, none⟩ K) := by
  intro w hw
  refine ⟨_, ?_, h w hw⟩
  intro j v hv
  cases j with
  | zero =>
    simp only [Shp.cells, List.getElem?_cons_zero, Option.some.injEq] at hv
    subst hv
    rw [add_mk, cell_of (hw.mem k hg)]
    exact bytesOf_get hi
  | succ j => simp [Shp.cells] at hv

/-- Bytes over over a memory. -/
def over (mem : Nat → Nat) (p : Nat) (bs : List Nat) : Nat → Nat := fun i => if p ≤ i then (bs[i - p]?).getD (mem i) else mem i

theorem heap_mems {w w' : World} {t : TypeId} {gs : List Nat} {size : Nat} {mem mem' : Nat → Nat} {q g : Nat} {Q : HP} (h : star (mems t gs size mem) Q (heapOf w)) (hg : gs[q]? = some g)
    (hw : ∀ c, w'.heap[c]? = if c = g then some (.cells (bytesOf size mem' q).toArray t (0, 0)) else w.heap[c]?)
    (hm : ∀ k, k ≠ q → bytesOf size mem' k = bytesOf size mem k) : star (mems t gs size mem') Q (heapOf w') := by
  obtain ⟨h1, h2, s, ⟨ha, hn, hz⟩, hq⟩ := h
  have hin : g ∈ gs := List.mem_of_getElem? hg
  refine ⟨fun c => if c = g then some (.cells (bytesOf size mem' q).toArray t (0, 0)) else h1 c, h2, ⟨fun c => ?_, fun c => ?_⟩, ⟨?_, hn, fun b hb => ?_⟩, hq⟩
  · by_cases hc : c = g
    · subst hc
      rcases s.apart c with x | x
      · rw [ha q c hg] at x; cases x
      · exact .inr x
    · simp only [hc, if_false]; exact s.apart c
  · show w'.heap[c]? = _
    rw [hw c]
    by_cases hc : c = g
    · simp [hc]
    · simp only [hc, if_false]; exact s.whole c
  · intro k g' hk
    by_cases hc : g' = g
    · subst hc
      have hkq : k = q := by
        exact (List.getElem?_inj (List.getElem?_eq_some_iff.1 hk).1 hn).1 (hk.trans hg.symm)
      subst hkq
      simp
    · have hkq : k ≠ q := fun e => hc (by subst e; rw [hg] at hk; exact (Option.some.inj hk).symm)
      simp only [hc, if_false]
      rw [ha k g' hk, hm k hkq]
  · have hbg : b ≠ g := fun e => hb (e ▸ hin)
    simp only [hbg, if_false]
    exact hz b hb

theorem bytesOf_laid_other {size : Nat} {mem : Nat → Nat} {q i : Nat} {bs : List Nat} (hi : i + bs.length ≤ size) {k : Nat} (hk : k ≠ q) : bytesOf size (over mem (q * size + i) bs) k = bytesOf size mem k := by
  unfold bytesOf
  apply List.map_congr_left
  intro j hj
  have hj : j < size := List.mem_range.1 hj
  have : over mem (q * size + i) bs (k * size + j) = mem (k * size + j) := by
    unfold over
    split
    · rename_i hle
      rw [List.getElem?_eq_none]
      · rfl
      · have : q < k := by
          rcases Nat.lt_or_ge q k with h | h
          · exact h
          · have : (k + 1) * size ≤ q * size := Nat.mul_le_mul_right _ (by omega)
            rw [Nat.add_mul] at this; omega
        have : (q + 1) * size ≤ k * size := Nat.mul_le_mul_right _ this
        rw [Nat.add_mul] at this
        omega
    · rfl
  rw [this]

theorem bytesOf_laid {size : Nat} {mem : Nat → Nat} {q i : Nat} {bs : List Nat} (hi : i + bs.length ≤ size) :
    bytesOf size (over mem (q * size + i) bs) q = (bytesOf size mem q).take i ++ bs.map (fun b : Nat => v8 (b : Int)) ++ (bytesOf size mem q).drop (i + bs.length) := by
  apply List.ext_getElem?
  intro j
  by_cases hj : j < size
  · rw [bytesOf_get hj]
    by_cases h1 : j < i
    · rw [List.append_assoc, List.getElem?_append_left (by simp [bytesOf_length]; omega), List.getElem?_take, if_pos h1, bytesOf_get hj]
      simp [over, show ¬ (q * size + i ≤ q * size + j) by omega]
    · by_cases h2 : j < i + bs.length
      · rw [List.getElem?_append_left (by simp [bytesOf_length]; omega), List.getElem?_append_right (by simp [bytesOf_length]; omega)]
        simp only [List.length_take, bytesOf_length, List.getElem?_map]
        have e1 : j - min i size = j - i := by omega
        rw [e1, List.getElem?_eq_getElem (by omega)]
        simp [over, show q * size + i ≤ q * size + j by omega, show q * size + j - (q * size + i) = j - i by omega, show j - i < bs.length by omega]
      · rw [List.getElem?_append_right (by simp [bytesOf_length]; omega), List.getElem?_drop]
        simp only [List.length_append, List.length_take, bytesOf_length, List.length_map]
        rw [show i + bs.length + (j - (min i size + bs.length)) = j by omega, bytesOf_get hj]
        simp [over, show q * size + i ≤ q * size + j by omega, show bs.length ≤ q * size + j - (q * size + i) by omega]
  · rw [List.getElem?_eq_none (by rw [bytesOf_length]; omega), List.getElem?_eq_none (by simp [bytesOf_length]; omega)]

theorem ent_mem_store {t : TypeId} {gs : List Nat} {size : Nat} {mem : Nat → Nat} {q g i v : Nat} {X : World → Prop} (k : Take l (mems t gs size mem) r) (hg : gs[q]? = some g) (hi : i < size)
    (h : ent e (mems t gs size (over mem (q * size + i) [v]) :: r) X) : ent e l ((wpM P).store ⟨g, i, none⟩ [v8 (v : Int)] X) := by
  intro w hw
  have hb := hw.mem k hg
  have hc : w.cell? ((⟨g, i, none⟩ : Addr).add 0) = some (v8 (mem (q * size + i))) := by rw [add_mk, cell_of hb]; exact bytesOf_get hi
  have hfz : w.frozen? ((⟨g, i, none⟩ : Addr).add 0) = false := by rw [add_mk]; simp [World.frozen?, hb]
  show RunsTo P (storeCells ⟨g, i, none⟩ [v8 (v : Int)]) w fun _ => X
  simp only [storeCells]
  have hrun : (store ((⟨g, i, none⟩ : Addr).add 0) (v8 (v : Int))).run P w = .ok () (w.setCell ((⟨g, i, none⟩ : Addr).add 0) (v8 (v : Int))) := by
    rw [run_store _ _ _ _ _ rfl]
    simp [hc, hfz]
  rw [runsTo_bind]
  refine runsTo_of_run hrun ?_
  simp only [RunsTo, Sem.run_pure]
  rw [add_mk, Nat.add_zero]
  refine h _ ⟨hw.tape, hw.os, hw.output, cons_part (heap_mems (k.part hw.heap) hg (fun c => ?_) (fun k' hk' => bytesOf_laid_other (by simp; omega) hk'))⟩
  rw [setCell_heap hb, bytesOf_laid (by simp; omega)]
  congr 3
  rw [List.set_eq_take_append_cons_drop, if_pos (by rw [bytesOf_length]; exact hi)]
  simp

/-- Bytes copied out of a memory into a block. -/
theorem ent_copy_out {t : TypeId} {gs : List Nat} {size : Nat} {mem : Nat → Nat} {q g i : Nat} {sT ty el : TypeId} {b o n m c c' : Nat} {tb : TypeId} {us : List Value} {K : Int → World → Prop} {r' : List HP}
    (hT : P.underlying sT = some (.slice el)) (hz : (P.info? el).map (·.size) = some 1) (k : Take l (mems t gs size mem) r) (kb : Take l (blk b tb us) r') (hg : gs[q]? = some g) (j : Nat) (hj : j = min m n) (hi : i + j ≤ size) (ho : o + j ≤ us.length)
    (h : ent e (blk b tb (us.take o ++ (List.range j).map (fun x => v8 (mem (q * size + i + x))) ++ us.drop (o + j)) :: r') (K j)) :
    ent e l ((wpM P).sem (Builtin.copy_ #[sT, sT] ty #[.slice (some ⟨b, o, none⟩) n c, .slice (some ⟨g, i, none⟩) m c']) sI K) := by
  intro w hw
  have hlen : ((List.range j).map (fun x => v8 (mem (q * size + i + x)))).length = j := by simp
  have hrun := run_copy_row (P := P) w sT sT ty el b o n c ⟨g, i, none⟩ m c' us.toArray tb ((List.range j).map (fun x => v8 (mem (q * size + i + x)))) hT hz (hw.block kb)
    (by rw [hlen, hj]) (by
      intro x v hv
      have hx : x < j := by have := (List.getElem?_eq_some_iff.1 hv).1; simpa using this
      rw [add_mk, cell_of (hw.mem k hg), bytesOf_get (by omega)]
      simp [hx] at hv
      rw [← hv, Nat.add_assoc]) (by rw [hlen]; simpa using ho) (by
      intro v hv
      simp only [List.mem_map] at hv
      obtain ⟨_, _, rfl⟩ := hv
      rfl)
  refine runsTo_of_run hrun ⟨(j : Int), by simp [goInt, Shp.inj, Kind.inj], ?_⟩
  have := hw.setRow (us := us.take o ++ (List.range j).map (fun x => v8 (mem (q * size + i + x))) ++ us.drop (o + j)) kb
  rw [hlen]
  exact h _ this

/-- Bytes copied into a memory. -/
theorem ent_copy_in {t : TypeId} {gs : List Nat} {size : Nat} {mem : Nat → Nat} {q g i : Nat} {sT ty el : TypeId} {a : Addr} {n m c c' : Nat} {K : Int → World → Prop} (bs : List Nat)
    (hT : P.underlying sT = some (.slice el)) (hz : (P.info? el).map (·.size) = some 1) (k : Take l (mems t gs size mem) r) (hg : gs[q]? = some g) (hj : bs.length = min m n) (hi : i + bs.length ≤ size)
    (hs : ∀ w, Sat e l w → rowAt w a (bs.map fun b : Nat => v8 (b : Int)))
    (h : ent e (mems t gs size (over mem (q * size + i) bs) :: r) (K bs.length)) :
    ent e l ((wpM P).sem (Builtin.copy_ #[sT, sT] ty #[.slice (some ⟨g, i, none⟩) n c, .slice (some a) m c']) sI K) := by
  intro w hw
  have hrun := run_copy_row (P := P) w sT sT ty el g i n c a m c' (bytesOf size mem q).toArray t (bs.map fun b : Nat => v8 (b : Int)) hT hz (hw.mem k hg)
    (by rw [List.length_map, hj]) (hs w hw) (by rw [List.length_map, List.size_toArray, bytesOf_length]; exact hi) (by
      intro v hv
      simp only [List.mem_map] at hv
      obtain ⟨_, _, rfl⟩ := hv
      rfl)
  refine runsTo_of_run hrun ⟨(bs.length : Int), by simp [goInt, Shp.inj, Kind.inj], ?_⟩
  refine h _ ⟨hw.tape, hw.os, hw.output, cons_part (heap_mems (k.part hw.heap) hg (fun c => ?_) (fun k' hk' => bytesOf_laid_other hi hk'))⟩
  rw [bytesOf_laid hi, List.length_map]
  by_cases hc : c = g
  · subst hc; rw [setRow_heap w c _ _ t (0, 0) (hw.mem k hg)]; simp
  · rw [setRow_other w g c _ hc]; simp [hc]

end Hl
end Go.Proofs.Ytdmfnlcbfmahhaa
