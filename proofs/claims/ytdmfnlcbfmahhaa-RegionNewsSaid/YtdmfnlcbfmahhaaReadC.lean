/- Many bytes are read. -/
import Derived.Test.YtdmfnlcbfmahhaaMemD
namespace Go.Proofs.Ytdmfnlcbfmahhaa
open Go Hl
set_option maxRecDepth 100000

variable {e : Still} {l r : List HP}

def Sp.ints (σ : Sp) (p n : Nat) : List Int := (List.range n).map fun x => ((σ.mem (p - σ.base + x) : Nat) : Int)

theorem ints_len {σ : Sp} {p n : Nat} : (σ.ints p n).length = n := by simp [Sp.ints]

theorem read_ct {s : Nat} {σ : Sp} {x y : Int} {K : Tup [sS, sI] → World → Prop} {KP : List PanicEntry → World → Prop} (p n : Nat) (hx : x = p) (hy : y = n) (hn : n < 18446744073709551616) (hp : p < 18446744073709551616)
    (h1 : σ.has p n → ∀ q : Sl, ent e (isSpace s σ :: arr 5 s8 q (σ.ints p n) :: r) (K (q, 0, ()))) (h2 : ¬ σ.has p n → ent e l (K (⟨none, 0, 0⟩, 4, ()))) (k : Take l (isSpace s σ) r := by with_reducible first | assumption | ((repeat (first | exact .here | apply Take.there)); done)) :
    ent e l ((wpM PR).call 63 [vP s, vU x, vU y] [sS, sI] K KP) := by
  subst hx hy
  refine ent_callD (C := 86) (G := 109) (fn := Go.Proofs.Try.f63) (gn := Go.Proofs.Try.f109) (by kernel_rfl)
    ⟨_, _, _, _, _, _, rfl⟩ (by kernel_rfl) ⟨⟨_, _, _, _, _, _, _, rfl⟩, rfl, rfl⟩ (by kernel_rfl) (by kernel_rfl) (by kernel_rfl) ?_
  rw [nf63_eq]
  refine ent_space_ok k fun hok => ?_
  have he := hok.end_le
  have hsz := hok.size_le
  refine ent_new fun q => ?_
  refine look_ct p n (.there k) rfl rfl hn (fun h => ?_) (fun h => ?_)
  · have hn4 : n ≤ 4194304 := by
      rcases h with h | h
      · omega
      · have h3 : σ.n * 2 ^ σ.order ≤ σ.limit * 2 ^ σ.order := Nat.mul_le_mul_right _ hok.n
        have h4 : σ.size * σ.n = 4096 * (σ.n * 2 ^ σ.order) := by unfold Sp.size; rw [Nat.mul_comm σ.n, Nat.mul_assoc]
        have := hok.limit
        omega
    refine ent_makeB bytes_elem n n rfl rfl (Nat.le_refl _) (by omega) (by omega) fun g => ?_
    have hz : (cellsOf s8 (List.replicate n (0 : Int))).length = n := by rw [cellsOf_s8, List.length_map, List.length_replicate]
    refine get_ct (n := n) (us := cellsOf s8 (List.replicate n (0 : Int))) p (.there (.there k)) .here rfl h hp (Nat.le_refl n) (by rw [hz]; omega) ?_
    have hs : spliced (cellsOf s8 (List.replicate n (0 : Int))) 0 (σ.bytes p n) = cellsOf s8 (σ.ints p n) := by
      unfold spliced
      have hb : (σ.bytes p n).length = n := by simp [Sp.bytes]
      rw [List.take_zero, List.nil_append, Nat.zero_add, hb, List.drop_eq_nil_of_le (by rw [hz]; exact Nat.le_refl _), List.append_nil, cellsOf_s8]
      unfold Sp.bytes Sp.ints
      rw [List.map_map]
      rfl
    rw [hs]
    refine ent_st ?_ (.there (.there .here))
    refine caught_nil_ct ?_
    refine ent_ld (0 : Int) ?_
    refine ent_sub ?_ (h1 h ⟨some ⟨g, 0, none⟩, n, n⟩)
    refine Sub.drop (Sub.cons .here (Sub.arr .here (by rw [ints_len]) (Nat.le_refl _) ⟨[], List.append_nil _⟩ ?_ .refl))
    rw [cellsOf_s8, List.length_map, ints_len]
    exact Nat.le_of_eq (Nat.mul_one n)
  · refine caught_ct .here ?_
    refine ent_load1 (4 : Int) .here rfl ?_
    exact ent_drop (h2 h)

end Go.Proofs.Ytdmfnlcbfmahhaa
