/- RegionNews returns true whatever its arguments are, and leaves them as they were; no condition. -/
import Derived.Test.YtdmfnlcbfmahhaaSameC
import Derived.Test.YtdmfnlcbfmahhaaBridgeC
namespace Go.Proofs.Ytdmfnlcbfmahhaa
open Go Hl Go.RowKit Go.ChangeShapes Go.WideShapes Go.ChangeAt
set_option maxRecDepth 100000

theorem regionNews_lifted (os : Os) (started : os.Started) (H : Type) (enc : TypeId × Value → H) :
    ReturnsInHanded {} Go.Proofs.Try.checked os 12 .any (Rows.regionNewsSpec.pre6 enc PR Go.Proofs.Try.f12 Rows.regionNewsRow.domain false) (Rows.regionNewsSpec.post enc PR Go.Proofs.Try.f12 false true false false) := by
  refine returnsInHanded_of_change (C := Go.Proofs.Try.checked) ownNone started (by kernel_rfl) (by kernel_rfl)
    (ChangeSpec.witness6 (enc := enc) (C := Go.Proofs.Try.checked) false ⟨#[], #[.agg #[.int .u64 0, .int .i64 0, .int .i64 0]], []⟩ 8 (by kernel_rfl) (by kernel_rfl) (by kernel_rfl) (by kernel_rfl)) ?_
  intro W base args ds gs before hval0 hW hcnd _
  have hval : ∀ (j : Nat) t v, Go.Proofs.Try.f12.params[j]? = some t → args[j]? = some v → Value.okWide PR W .any base t v := hval0
  have hW' := hW
  obtain ⟨p, q, hA0, hV, rfl, hfz, hnd⟩ := hW
  have hA : DataW.TrodAll enc PR W 0 (fun _ => true) true Go.Proofs.Try.f12.params.toList args.toList ds p := hA0
  have hpar : Go.Proofs.Try.f12.params = #[24] := by kernel_rfl
  rw [hpar] at hA hval
  obtain ⟨v0, vs0, d0, ds0, p0, q0, hargs, rfl, rfl, h0, r0⟩ := trodAll_cons hA
  obtain ⟨rfl, rfl, rfl⟩ := trodAll_nil r0
  obtain rfl : args = #[v0] := by cases args; simp_all
  obtain ⟨rfl, rfl⟩ := trodVars_none hV
  have k0 := h0
  have lt0 : ∀ x ∈ p0, x.block < W.heap.size := by obtain ⟨m, hm⟩ := k0; exact DataW.trod_lt m _ _ _ hm
  obtain ⟨x0, y0, z0, rfl, hx0, hy0⟩ := config_open (hval 0 _ v0 rfl rfl) h0
  clear hA0 hval0
  have hrun := funcF_sound (P := PR) (f := 12) (w := W) (args := [.agg #[vU x0, vI y0, vI z0]]) (ret := fun v w' => v = .bool true ∧ Below W.heap.size W w') (pan := fun _ _ => False) (by kernel_rfl)
    (news_ct (W := W)  hx0 hy0 (fun w hw => ⟨rfl, hw⟩) W (sat_was W))
  refine hrun.mono fun e W' he => ?_
  match e, he with
  | .returned v, ⟨hv, bel⟩ =>
    subst hv
    exact ⟨_, rfl, _, _, _, [], _, [], hW', trodAll_mk1 (shut_bool (by kernel_rfl) _), (trodAll_cons_mk (Below.trod laidOut (by kernel_rfl) (of_decide_eq_true (by kernel_rfl)) k0 bel lt0) trodAll_mk0), rfl, bel.frame _, fun h => by cases h⟩

theorem regionNews_holds : Rows.RegionNewsSaid :=
  OpenClaim.holds_of_wide 12 Go.Proofs.Try.f12 rfl rfl rfl rfl rfl rfl rfl ⟨rfl, rfl, rfl, rfl, rfl⟩ rfl rfl rfl rfl rfl (by kernel_rfl) (by kernel_rfl) (by kernel_rfl)
    (of_decide_eq_true (by kernel_rfl)) (by unfold Func.isWrapper; rw [if_neg (of_decide_eq_false (by kernel_rfl))]; exact ⟨rfl, rfl⟩)
    (fun os started H enc _ => regionNews_lifted os started H enc)

end Go.Proofs.Ytdmfnlcbfmahhaa
