/- Slices grown by zeros, cleared, cut. -/
import Derived.Test.YtdmfnlcbfmahhaaHlTab
namespace Go.Proofs.Ytdmfnlcbfmahhaa
namespace Hl
open Go

variable {e : Still} {l r : List HP} {P : Program}

theorem Elem.of {t el : TypeId} {sh : Shp} {x0 : sh.T} {bytes : Nat} (h1 : P.underlying t = some (.slice el))
    (h2 : ((P.info? el).bind fun ti => ti.zero.map fun z => (z.cells.toList, ti.size, ti.bytes)) = some (sh.cells x0, sh.width, bytes)) : Elem P t el sh x0 bytes := by
  cases hi : P.info? el with
  | none => rw [hi] at h2; cases h2
  | some ti =>
    rw [hi] at h2
    cases hz : ti.zero with
    | none => simp [hz] at h2
    | some z =>
      simp [hz] at h2
      exact ⟨ti, z, h1, hi, hz, by simpa using h2.1, h2.2.1, h2.2.2⟩

theorem zero_list (sh : Shp) (x : sh.T) (z : Array Value) (hz : z.toList = sh.cells x) (n : Nat) : (Builtin.zeroCells z n).toList = cellsOf sh (List.replicate n x) := by
  have hsz : z.size = sh.width := by rw [← Array.length_toList, hz, Shp.cells_length]
  have := madeCells_list sh x z hz n
  rw [← this]
  unfold Builtin.zeroCells madeCells
  rw [hsz]

theorem run_appendZ_room (w : World) (t u ty e : TypeId) (i : TypeInfo) (z : Value) (ht : P.underlying t = some (.slice e)) {ku : IntKind} (hu : P.underlying u = some (.int ku)) (hi : P.info? e = some i) (hz : i.zero = some z)
    (g sLen sCap : Nat) (cur : Array Value) (hg : w.heap[g]? = some (.cells cur e (0, 0))) (m : Nat) (hm : (m : Int) < 9223372036854775808) (news : List Value) (hn : (Builtin.zeroCells z.cells m).toList = news) (hl : news.length = m * i.size) (hb : m * i.bytes ≤ 281474976710656)
    (h1 : ∀ u ∈ news, u.oneCell' = true) (h0 : 0 < m * i.size) (hroom : sLen + m ≤ sCap) (hfit : sLen * i.size + news.length ≤ cur.size) :
    (Builtin.append_ #[t, u] ty #[.slice (some ⟨g, 0, none⟩) sLen sCap, .int .i64 m]).run P w =
      .ok (.slice (some ⟨g, 0, none⟩) (sLen + m) sCap) (w.setRow g (cur.toList.take (sLen * i.size) ++ news ++ cur.toList.drop (sLen * i.size + news.length)).toArray) := by
  have hst := run_storeCells_at P g (sLen * i.size) e news 0 cur w hg (by simpa using hfit) h1
  simp only [Nat.add_zero] at hst
  have hw : IntKind.i64.wrap (m : Int) = (m : Int) := by
    simp [IntKind.wrap, IntKind.signed, IntKind.bits]; omega
  have hb' : ¬ (281474976710656 < (m : Int) * (i.bytes : Int)) := by
    have : ((m * i.bytes : Nat) : Int) ≤ 281474976710656 := by omega
    rw [Int.natCast_mul] at this; omega
  have h0' : ¬ (m * i.size = 0) := by omega
  have h0'' : ¬ (m = 0 ∨ i.size = 0) := by
    rintro (h | h)
    · rw [h] at h0; simp at h0
    · rw [h] at h0; simp at h0
  have hnn : ¬ ((m : Int) < 0) := by omega
  simp [Builtin.append_, run_underlying ht, run_underlying hu, sizeOf, typeInfo, zeroValue, hi, hz, asInt, asIntOf, hw, hb', h0', h0'', hroom, hn, Addr.add_lit, hst, hnn]

theorem run_appendZ_grow (w : World) (t u ty e : TypeId) (i : TypeInfo) (z : Value) (ht : P.underlying t = some (.slice e)) {ku : IntKind} (hu : P.underlying u = some (.int ku)) (hi : P.info? e = some i) (hz : i.zero = some z)
    (b : Option Addr) (sLen sCap : Nat) (olds : List Value) (hlo : olds.length = sLen * i.size) (holds : ∀ a, b = some a → ∀ j v, olds[j]? = some v → w.cell? (a.add j) = some v) (hbn : b = none → sLen = 0)
    (m : Nat) (hm : (m : Int) < 9223372036854775808) (news : List Value) (hn : (Builtin.zeroCells z.cells m).toList = news) (hb : m * i.bytes ≤ 281474976710656) (h0 : 0 < m * i.size)
    (hg : sCap < sLen + m) (h63 : ((sLen + m : Nat) : Int) ≤ 9223372036854775807) (hfit : Builtin.nextslicecap (sLen + m) sCap * i.bytes ≤ 281474976710656) :
    (Builtin.append_ #[t, u] ty #[.slice b sLen sCap, .int .i64 m]).run P w =
      .ok (.slice (some ⟨w.heap.size, 0, none⟩) (sLen + m) (grownCap w (sLen + m) sCap e))
        (w.drew.alloc (.cells (olds.toArray ++ news.toArray ++ Builtin.zeroCells z.cells (grownCap w (sLen + m) sCap e - (sLen + m))) e)) := by
  have hw : IntKind.i64.wrap (m : Int) = (m : Int) := by
    simp [IntKind.wrap, IntKind.signed, IntKind.bits]; omega
  have hb' : ¬ (281474976710656 < (m : Int) * (i.bytes : Int)) := by
    have : ((m * i.bytes : Nat) : Int) ≤ 281474976710656 := by omega
    rw [Int.natCast_mul] at this; omega
  have h0'' : ¬ (m = 0 ∨ i.size = 0) := by
    rintro (h | h)
    · rw [h] at h0; simp at h0
    · rw [h] at h0; simp at h0
  have h0' : ¬ (m * i.size = 0) := by omega
  have hng : ¬ (sLen + m ≤ sCap) := by omega
  have h63' : ¬ (9223372036854775807 < ((sLen : Int) + (m : Int))) := by omega
  have h48' : ¬ (281474976710656 < Builtin.nextslicecap (sLen + m) sCap * i.bytes) := by omega
  have hnn : ¬ ((m : Int) < 0) := by omega
  have hfo : (Builtin.firstCells i.size sLen (.slice b sLen sCap)).run P w.drew = .ok olds.toArray w.drew := by
    cases b with
    | none =>
      have h := hbn rfl
      subst h
      have : olds = [] := List.eq_nil_of_length_eq_zero (by rw [hlo]; simp)
      subst this
      simp [Builtin.firstCells]
    | some a => exact run_firstCells_some (P := P) w.drew i.size sLen a sLen sCap olds hlo (by simpa using holds a rfl)
  subst hn
  simp [Builtin.append_, run_underlying ht, run_underlying hu, sizeOf, typeInfo, zeroValue, hi, hz, asInt, asIntOf, hw, hb', h0', h0'', hng, h63', h48', Question.forced, hfo, newRow, grownCap, hnn]

/-- A slice grows by zeros. -/
theorem ent_appendZ {t u ty el : TypeId} {ku : IntKind} {sh : Shp} {x0 : sh.T} {bytes : Nat} (E : Elem P t el sh x0 bytes) (hu : P.underlying u = some (.int ku)) (hp : sh.plain = true) (hw0 : 0 < sh.width) {s : Sl} {xs : List sh.T} {K : Sl → World → Prop} {M : Int} (m : Nat)
    (hM : M = m) (hm0 : 0 < m) (hfit : (xs.length + m) * bytes ≤ 140737488355328) (h63 : xs.length + m ≤ 4611686018427387904)
    (h : ∀ s', s'.len = xs.length + m → ent e (arr el sh s' (xs ++ List.replicate m x0) :: r) (K s')) (k : Take l (arr el sh s xs) r := by with_reducible first | assumption | ((repeat (first | exact .here | apply Take.there)); done)) :
    ent e l ((wpM P).sem (Builtin.append_ #[t, u] ty #[.slice s.base s.len s.cap, .int .i64 M]) sS K) := by
  subst hM
  obtain ⟨ti, z, ht, hi, hz, hzc, hs, rfl⟩ := E.all
  have hzl : ∀ n, (Builtin.zeroCells z.cells n).toList = cellsOf sh (List.replicate n x0) := zero_list sh x0 z.cells hzc
  have hmb : m * ti.bytes ≤ (xs.length + m) * ti.bytes := Nat.mul_le_mul_right _ (by omega)
  have hpos : 0 < m * ti.size := by rw [hs]; exact Nat.mul_pos hm0 hw0
  have hgrow : ∀ (b : Option Addr) (c : Nat), c < xs.length + m → (∀ w, Sat e l w → ∀ a, b = some a → ∀ j v, (cellsOf sh xs)[j]? = some v → w.cell? (a.add j) = some v) → (b = none → xs.length = 0) →
      (∀ w, Sat e l w → Sat e r w) → ent e l ((wpM P).sem (Builtin.append_ #[t, u] ty #[.slice b xs.length c, .int .i64 m]) sS K) := by
    intro b c hc hold hbn hr w hw
    refine runsTo_of_run (run_appendZ_grow w t u ty el ti z ht hu hi hz b xs.length c (cellsOf sh xs) (by rw [cellsOf_length, hs]) (hold w hw) hbn m (by omega) _ (hzl m) (by omega) hpos hc (by omega) (growslice_fits hc hfit)) ?_
    refine ⟨⟨some ⟨w.heap.size, 0, none⟩, xs.length + m, grownCap w (xs.length + m) c el⟩, rfl, ?_⟩
    have hge := grownCap_ge w (xs.length + m) c el
    refine ent_sub (l := blk w.heap.size el (cellsOf sh xs ++ cellsOf sh (List.replicate m x0) ++ (Builtin.zeroCells z.cells (grownCap w (xs.length + m) c el - (xs.length + m))).toList) :: r) ?_ (h _ rfl) _ ?_
    · refine Sub.arr .here (by simp) hge (by rw [cellsOf_append]; exact List.prefix_append _ _) ?_ .refl
      simp only [List.length_append, hzl, cellsOf_length, List.length_replicate, ← Nat.add_mul]
      exact Nat.mul_le_mul_right _ (by omega)
    · have := (hr w hw).drew.alloc (.cells ((cellsOf sh xs).toArray ++ (cellsOf sh (List.replicate m x0)).toArray ++ Builtin.zeroCells z.cells (grownCap w (xs.length + m) c el - (xs.length + m))) el)
      unfold blk
      rw [← List.append_toArray, ← List.append_toArray, Array.toArray_toList]
      exact this
  intro w hw
  obtain ⟨a, b, s', hs', hr⟩ := k.part hw.heap
  have hrr : ∀ w, Sat e l w → Sat e r w := fun w hw => (show Sat e (arr el sh s xs :: r) w from ⟨hw.tape, hw.os, hw.output, cons_part (k.part hw.heap)⟩).drop
  rcases hs' with ⟨rfl, rfl, ha⟩ | ⟨g, rest, e1, e2, e3, e4, ha⟩
  · exact hgrow none 0 (by simpa using hm0) (fun _ _ a ha => by cases ha) (fun _ => rfl) hrr w hw
  · rw [e1, e2]
    rcases Nat.lt_or_ge s.cap (xs.length + m) with hc | hc
    · refine hgrow _ s.cap hc (fun w hw a' ha' j v hv => ?_) (fun hn => by cases hn) hrr w hw
      have : Tells e l s (cellsOf sh xs) := Tells.arr k w hw
      rcases this with ⟨hb, _⟩ | ⟨a'', hb, hrow⟩
      · rw [e1] at hb; cases hb
      · rw [e1] at hb; cases hb; cases ha'
        exact hrow w hw j v hv
    · have hsat : Sat e (blk g el (cellsOf sh xs ++ rest) :: r) w := ⟨hw.tape, hw.os, hw.output, cons_part ⟨a, b, s', ha, hr⟩⟩
      have hcap : (xs.length + m) * sh.width ≤ s.cap * sh.width := Nat.mul_le_mul_right _ hc
      rw [Nat.add_mul] at hcap
      have hxl : (cellsOf sh xs).length = xs.length * ti.size := by rw [cellsOf_length, hs]
      refine runsTo_of_run (run_appendZ_room w t u ty el ti z ht hu hi hz g xs.length s.cap _ (hsat.block .here) m (by omega) _ (hzl m) (by rw [cellsOf_length, List.length_replicate, hs]) (by omega) (cellsOf_one hp _) hpos hc ?_) ?_
      · rw [cellsOf_length, hs, List.size_toArray, List.length_replicate]; omega
      · refine ⟨⟨some ⟨g, 0, none⟩, xs.length + m, s.cap⟩, rfl, ?_⟩
        refine ent_sub (l := blk g el (cellsOf sh xs ++ cellsOf sh (List.replicate m x0) ++ (cellsOf sh xs ++ rest).drop (xs.length * ti.size + (cellsOf sh (List.replicate m x0)).length)) :: r) ?_ (h _ rfl) _ ?_
        · refine Sub.arr .here (by simp) hc (by rw [cellsOf_append]; exact List.prefix_append _ _) ?_ .refl
          simp only [List.length_append, List.length_drop, cellsOf_length, hs, List.length_replicate] at e4 ⊢
          omega
        · have := hsat.setRow (us := cellsOf sh xs ++ cellsOf sh (List.replicate m x0) ++ (cellsOf sh xs ++ rest).drop (xs.length * ti.size + (cellsOf sh (List.replicate m x0)).length)) .here
          rw [show (cellsOf sh xs ++ rest).toArray.toList.take (xs.length * ti.size) = cellsOf sh xs by simp only [← hxl, List.take_left]]
          exact this

/-- A slice is made; the block behind it. -/
theorem ent_makeB {t el : TypeId} {sh : Shp} {x0 : sh.T} {bytes : Nat} (E : Elem P t el sh x0 bytes) {kl kc : IntKind} {n c : Int} {K : Sl → World → Prop} (n' c' : Nat) (hn : n = n') (hc : c = c') (hnc : n' ≤ c') (hb : bytes * c' ≤ 281474976710656) (h63 : c' ≤ 9223372036854775807)
    (h : ∀ g, ent e (blk g el (cellsOf sh (List.replicate c' x0)) :: l) (K ⟨some ⟨g, 0, none⟩, n', c'⟩)) : ent e l ((wpM P).sem (Instr.makeSlice t (.int kl n) (.int kc c)) sS K) := by
  obtain ⟨ti, z, ht, hi, hz, hzc, hs, rfl⟩ := E.all
  intro w hw
  subst hn hc
  have hb' : (ti.bytes : Int) * (c' : Int) ≤ 281474976710656 := by
    have h : ((ti.bytes * c' : Nat) : Int) ≤ 281474976710656 := by omega
    rwa [Int.natCast_mul] at h
  refine runsTo_of_run (run_make w t el ti z ht hi hz kl kc n' c' (by omega) (by omega) hb' (by omega)) ?_
  simp only [Int.toNat_natCast]
  refine ⟨⟨some ⟨w.heap.size, 0, none⟩, n', c'⟩, rfl, h _ _ ?_⟩
  have hl := madeCells_list sh x0 z.cells hzc c'
  rw [hs]
  have : madeCells z.cells (c' * sh.width) = (cellsOf sh (List.replicate c' x0)).toArray := by rw [← hl]
  rw [this]
  exact hw.alloc _

/-- A slice's beginning. -/
theorem Sub.arr_take {t : TypeId} {sh : Shp} {s s' : Sl} {xs : List sh.T} {l' : List HP} {n : Nat} (k : Take l (Hl.arr t sh s xs) r) (hn : n ≤ xs.length) (hb : s'.base = s.base) (hl : s'.len = n) (hc : s'.cap = s.cap) (h : Sub r l') : Sub l (Hl.arr t sh s' (xs.take n) :: l') := by
  intro hh y
  refine cons_part (star_mono (fun _ z => ?_) (fun _ z => h _ z) (k.part y))
  rcases z with ⟨rfl, rfl, he⟩ | ⟨g, rest, e1, e2, e3, e4, ha⟩
  · refine .inl ⟨?_, by simp, he⟩
    cases s'; simp at hb hl hc hn; simp_all
  · refine .inr ⟨g, cellsOf sh (xs.drop n) ++ rest, by rw [hb, e1], ?_, by omega, ?_, ?_⟩
    · rw [hl, List.length_take, Nat.min_eq_left hn]
    · rw [← List.append_assoc, ← cellsOf_append, List.take_append_drop, hc]; exact e4
    · rw [← List.append_assoc, ← cellsOf_append, List.take_append_drop]; exact ha

theorem ent_arr_take {t : TypeId} {sh : Shp} {s : Sl} {xs : List sh.T} {X : World → Prop} (n : Nat) (s' : Sl) (hn : n ≤ xs.length) (hb : s'.base = s.base) (hl : s'.len = n) (hc : s'.cap = s.cap) (h : ent e (arr t sh s' (xs.take n) :: r) X) (k : Take l (arr t sh s xs) r := by with_reducible first | assumption | ((repeat (first | exact .here | apply Take.there)); done)) : ent e l X :=
  ent_sub (Sub.arr_take k hn hb hl hc .refl) h

/-- A slice's end is cleared. -/
theorem ent_clear_tail {t ty el : TypeId} {sh : Shp} {x0 : sh.T} {bytes : Nat} (E : Elem P t el sh x0 bytes) (hp : sh.plain = true) (_hw0 : 0 < sh.width) {s : Sl} {xs : List sh.T} {K : Value → World → Prop} (n : Nat) (hn : n ≤ xs.length) {b : Option Addr} {c : Nat} {L : Nat}
    (hb : n < xs.length → b = s.base.map fun a => a.add (n * sh.width)) (hL : L = xs.length - n)
    (h : ∀ v, ent e (arr el sh s (xs.take n ++ List.replicate (xs.length - n) x0) :: r) (K v)) (k : Take l (arr el sh s xs) r := by with_reducible first | assumption | ((repeat (first | exact .here | apply Take.there)); done)) :
    ent e l ((wpM P).sem (Builtin.clear_ #[t] ty #[.slice b L c]) (.one .any) K) := by
  subst hL
  obtain ⟨ti, z, ht, hi, hz, hzc, hs, rfl⟩ := E.all
  by_cases h0 : xs.length - n = 0
  · intro w hw
    have hx : xs.take n ++ List.replicate (xs.length - n) x0 = xs := by
      rw [h0, List.replicate_zero, List.append_nil, List.take_of_length_le (by omega)]
    rw [hx] at h
    refine runsTo_of_run (v := .tuple #[]) (w' := w) ?_ ⟨.tuple #[], rfl, ent_sub (Sub.cons k .refl) (h _) w hw⟩
    rw [h0]
    cases b <;> simp [Builtin.clear_, run_underlying ht]
  · refine ent_arr k (fun e1 e2 => absurd (by rw [e2]; simp) h0) (fun g rest e1 e2 e3 => ?_)
    intro w hw
    have hbase : s.base = some ⟨g, 0, none⟩ := by rw [e1]
    rw [hb (by omega), hbase]
    show RunsTo P (Builtin.clear_ #[t] ty #[.slice (some ((⟨g, 0, none⟩ : Addr).add (n * sh.width))) (xs.length - n) c]) w _
    rw [add_mk, Nat.zero_add]
    obtain ⟨m, hm⟩ : ∃ m, xs.length - n = m + 1 := ⟨xs.length - n - 1, by omega⟩
    have hlen : (cellsOf sh xs).length = xs.length * sh.width := cellsOf_length sh xs
    have hst : ent e (blk g el (cellsOf sh xs ++ rest) :: r) fun w => RunsTo P (storeCells ⟨g, n * sh.width, none⟩ (Builtin.zeroCells z.cells (xs.length - n)).toList) w fun _ => K (.tuple #[]) := by
      rw [zero_list sh x0 z.cells hzc]
      refine ent_store .here (cellsOf_one hp _) ?_ ?_
      · rw [cellsOf_length, List.length_append, hlen, List.length_replicate]
        have : n * sh.width + (xs.length - n) * sh.width = xs.length * sh.width := by rw [← Nat.add_mul]; congr 1; omega
        omega
      · have hput : putAt (cellsOf sh xs ++ rest) (n * sh.width) (cellsOf sh (List.replicate (xs.length - n) x0)) = cellsOf sh (xs.take n ++ List.replicate (xs.length - n) x0) ++ rest := by
          have hpre : (cellsOf sh (xs.take n)).length = n * sh.width := by rw [cellsOf_length, List.length_take, Nat.min_eq_left hn]
          rw [show cellsOf sh xs = cellsOf sh (xs.take n) ++ cellsOf sh (xs.drop n) by rw [← cellsOf_append, List.take_append_drop], ← hpre, putAt_append _ _ _ _ (by rw [cellsOf_length, cellsOf_length, List.length_drop, List.length_replicate]), cellsOf_append]
        rw [hput]
        refine ent_sub ?_ (h _)
        rw [e1]
        refine Sub.arr .here (by simp; omega) (by simpa using e2) (List.prefix_append _ _) ?_ .refl
        rw [List.length_append, cellsOf_length] at e3 ⊢
        simp only [List.length_append, List.length_take, List.length_replicate]
        rw [show min n xs.length + (xs.length - n) = xs.length by omega]; exact e3
    have this : RunsTo P (storeCells ⟨g, n * sh.width, none⟩ (Builtin.zeroCells z.cells (xs.length - n)).toList) w fun _ => K (.tuple #[]) := hst w hw
    show RunsTo P (Builtin.clear_ #[t] ty #[.slice (some ⟨g, n * sh.width, none⟩) (xs.length - n) c]) w _
    have hr : (Builtin.clear_ #[t] ty #[.slice (some ⟨g, n * sh.width, none⟩) (xs.length - n) c]).run P w = ((storeCells ⟨g, n * sh.width, none⟩ (Builtin.zeroCells z.cells (xs.length - n)).toList).run P w).andThen fun _ w' => .ok (.tuple #[]) w' := by
      rw [hm]
      simp [Builtin.clear_, run_underlying ht, zeroValue, typeInfo, hi, hz]
    unfold RunsTo at this ⊢
    rw [hr]
    cases hx : (storeCells ⟨g, n * sh.width, none⟩ (Builtin.zeroCells z.cells (xs.length - n)).toList).run P w with
    | ok v w' => rw [hx] at this; exact ⟨.tuple #[], rfl, this⟩
    | halt a b => rw [hx] at this; exact this.elim

end Hl
end Go.Proofs.Ytdmfnlcbfmahhaa
