/- RegionSame and RegionNews, whatever the configuration. -/
import Derived.Test.YtdmfnlcbfmahhaaOpensC
import Derived.Test.YtdmfnlcbfmahhaaNfNews
import Derived.LaidEql
import Derived.ChangeKeysEq
namespace Go.Proofs.Ytdmfnlcbfmahhaa
open Go Hl Bd Go.RowKit
set_option maxRecDepth 100000

variable {W : World} {e : Still} {l l1 r : List HP} {σ : Sp} {d : D} {S : Nat → Prop} {p b s m : Nat}

theorem equalIn_same {t el : TypeId} {a : Addr} {ti : TypeInfo} {w : World} (ht : PR.underlying t = some (.pointer el)) (hi : PR.info? el = some ti) (n : Nat) :
    (Op.equalIn (n + 1) t (.pointer (some a)) (.pointer (some a))).run PR w = .ok true w := by
  unfold Op.equalIn
  rw [Sem.run_bind, run_underlying ht]
  show Sem.run PR (sizeOf el >>= _) w = _
  rw [Sem.run_bind, show (sizeOf el).run PR w = .ok ti.size w by simp [sizeOf, typeInfo, hi]]
  show Sem.run PR (if ti.size ≠ 0 then sameAddr a a else if (a == a) = true then pure true else _) w = _
  split
  · first | exact run_sameAddr_same a | exact run_sameAddr_same _ a
  · rw [if_pos (by simp)]; rfl

theorem ent_samePtr {t el : TypeId} {a : Addr} {K : Bool → World → Prop} (ht : PR.underlying t = some (.pointer el)) (hi : (PR.info? el).isSome = true) (h : ent e l (K true)) :
    ent e l ((wpM PR).sem (eqV t (.pointer (some a)) (.pointer (some a))) sB K) := by
  obtain ⟨ti, hti⟩ := Option.isSome_iff_exists.1 hi
  intro w hw
  refine runsTo_of_run (v := .bool true) (w' := w) ?_ ⟨true, rfl, h w hw⟩
  unfold eqV
  rw [Sem.run_bind]
  unfold Op.equal
  rw [show Op.maxDepth = (Op.maxDepth - 1) + 1 from rfl, equalIn_same ht hti]
  rfl

theorem endG_ct {K : Tup [sU] → World → Prop} {KP : List PanicEntry → World → Prop} (h : ent e l (K (((σ.base + σ.size * σ.n : Nat) : Int), ()))) (k : Take l (isG S b s m σ d) r := by with_reducible first | assumption | ((repeat (first | exact .here | apply Take.there)); done)) :
    ent e l ((wpM PR).call 57 [vP s] [sU] K KP) := by
  refine ent_G (fun μ heads R => ?_) k
  refine ent_B (fun okb => ?_) .here
  refine end_ct .here ?_
  exact ent_sub (Sub.trans (sub_G R (sub_B ⟨σ, μ, heads⟩ okb (by repeat (first | exact Sub.refl | refine Sub.cons (by with_reducible first | assumption | ((repeat (first | exact .here | apply Take.there)); done)) ?_ | refine Sub.drop ?_)))) (Sub.untake k)) h

theorem fed_free (k : Nat) : (D.new k).fed.free = upd (fun _ => []) k [0] := by
  show ((D.new k).come.give k 0).free = _
  unfold D.give
  rw [show (D.new k).come.O - k = 0 from Nat.sub_self k]
  rfl

theorem splits_free0 {q : Nat} : ∀ (n : Nat) {d : D}, (d.splits q 0 (n + 1)).free 0 ≠ []
  | 0, d => by
    show upd d.free (0 + 0) ((q + 2 ^ (0 + 0)) :: d.free (0 + 0)) 0 ≠ []
    rw [show (0 + 0 : Nat) = 0 from rfl, Bd.upd_same]
    simp
  | n + 1, d => by
    show ((d.split (0 + (n + 1)) q).splits q 0 (n + 1)).free 0 ≠ []
    exact splits_free0 n

/-- The first block of a pool that was empty. -/
theorem first_take {k j q : Nat} (hf : (D.new k).fed.first 0 (k + 1 - 0) = some j) (hq : q ∈ (D.new k).fed.free j) :
    j = k ∧ q = 0 ∧ (k = 0 ↔ (((D.new k).fed.pop j q).cut q j 0).free 0 = []) := by
  obtain ⟨_, _, h3, _⟩ := first_some hf
  rw [fed_free] at h3 hq
  have hj : j = k := by
    refine Classical.byContradiction fun hne => h3 ?_
    unfold upd; rw [if_neg hne]
  subst hj
  rw [Bd.upd_same] at hq
  have hq0 : q = 0 := by simpa using hq
  subst hq0
  refine ⟨rfl, rfl, fun h0 => ?_, fun h0 => ?_⟩
  · subst h0
    show upd (D.new 0).fed.free 0 (((D.new 0).fed.free 0).filter (· ≠ 0)) 0 = []
    rw [Bd.upd_same, fed_free, Bd.upd_same]
    rfl
  · refine Classical.byContradiction fun hne => ?_
    obtain ⟨n, rfl⟩ : ∃ n, j = n + 1 := ⟨j - 1, by omega⟩
    exact splits_free0 n (d := (D.new (n + 1)).fed.pop (n + 1) 0) h0

theorem hdA_zero {σ : Sp} (hb : 0 < σ.base) {l : List Nat} : hdA σ 0 l = 0 ↔ l = [] := by
  cases l with
  | nil => exact ⟨fun _ => rfl, fun _ => rfl⟩
  | cons x t => exact ⟨fun h => absurd h (by show σ.base + 4096 * x ≠ 0; omega), fun h => by cases h⟩

theorem trim0_ct {K : Tup [sI] → World → Prop} {KP : List PanicEntry → World → Prop} (h0 : d.pages = 0) (h : ent e l (K (0, ())))
    (kp : Take l (isPool p s m b) l1 := by with_reducible first | assumption | ((repeat (first | exact .here | apply Take.there)); done)) (kg : Take l1 (isG S b s m σ d) r := by with_reducible first | assumption | ((repeat (first | exact .here | apply Take.there)); done)) :
    ent e l ((wpM PR).call 58 [vP p] [sI] K KP) := by
  refine ent_call (fn := Go.Proofs.Try.f58) (by kernel_rfl) ?_
  rw [nf58_eq]
  refine ent_sub (l' := isPool p s m b :: isG S b s m σ d :: r) (Sub.cons kp (Sub.cons kg .refl)) ?_
  have back : Sub (isPool p s m b :: isG S b s m σ d :: r) l := Sub.trans (Sub.cons .here (Sub.untake kg)) (Sub.untake kp)
  refine ent_loop (S := Unit) (fun _ => (0, ())) (fun _ => isPool p s m b :: isG S b s m σ d :: r) (fun _ => True) (fun _ => 0) () rfl trivial (fun _ y => y) ?_
  intro kk _ _ _
  refine ent_ld (some ⟨b, 0, none⟩) ?_
  refine pullG_ct (σ := σ) (d := d) (fun σ' _ h1 _ _ _ => absurd h1 (by omega)) (fun _ => ?_)
  refine ent_eq (fun c => absurd (show (9 : Int) = 0 from c) (by decide)) (fun _ => ?_)
  exact ent_sub back h

theorem same_ct {x y z : Int} {ret : Value → World → Prop} {pan : List PanicEntry → World → Prop} (hx : 0 ≤ x) (hx2 : x < 18446744073709551616)
    (h : ∀ w, Below W.heap.size W w → ret (.bool true) w) :
    ent (still W) [was W] (funcF (wpM PR) PR Go.Proofs.Try.f6 [.agg #[vU x, vI y, vI z]] ret pan) := by
  rw [nf6_eq]
  refine ent_new fun x1 => ?_
  refine awake_ct ?_
  refine ent_not (fun c => Bool.noConfusion (show true = false from c)) (fun _ => ?_)
  refine ent_ldA (x, y, z, ()) ?_
  refine regionNew_ct hx hx2 (fun b0 n k hc a1 a2 a3 p s m b => ?_) (fun _ => ?_)
  rotate_left
  · refine ent_eq (fun _ => ent_done h) (fun c => absurd rfl c)
  subst a1 a2 a3
  refine ent_eq (fun c => absurd (show (0 : Int) = 1 from c) (by decide)) (fun _ => ?_)
  refine ent_drS ?_
  refine space_ct6 (p := p) (s := s) (m := m) (b := b) ?_
  refine ent_drS ?_
  refine map_ct6 (p := p) (s := s) (m := m) (b := b) ?_
  refine ent_drS ?_
  refine buddy_ct6 (p := p) (s := s) (m := m) (b := b) ?_
  refine ent_joinP (A := Unit) (fun _ _ => True) (fun _ => [isPool p s m b, isG (fun _ => False) b s m ⟨b0, n, k, 0, fun _ => 0⟩ (D.new k), blk x1 24 [vU b0, vI n, vI k], was W]) (fun _ x11 _ => ?_) (fun k39 h39 => ?_)
  rotate_left
  · refine ent_ne (fun c => absurd rfl c) (fun _ => ?_)
    refine regionsG_ct (σ := ⟨b0, n, k, 0, fun _ => 0⟩) ?_
    refine ent_ne (fun c => absurd rfl c) (fun _ => ?_)
    exact h39 () _ trivial
  refine need_ct (p := p) (s := s) (m := m) (b := b) (S := fun _ => False) (σ := ⟨b0, n, k, 0, fun _ => 0⟩) (d := D.new k) (x := 0) (deny := false) (by show 0 = 0 * 2 ^ k; omega) (fun hc => absurd hc (by show ¬ ((0 : Int) < 0 ∨ (k : Int) < 0); omega))
    (fun k j q σ' _ _ hf => absurd rfl (first_some hf).2.2.1) (fun k _ _ _ hd => absurd hd (by rintro (c | c); exact Bool.noConfusion c; have := hc.one; have c : 0 = n := c; omega)) (fun t j q σ1 σ' ht _ _ _ _ _ hu1 hf hq _ hu2 => ?_)
  obtain rfl : t = 0 := by omega
  obtain ⟨rfl, rfl, hk0⟩ := first_take hf hq
  obtain ⟨f1, f2, f3⟩ := take_same (d := (D.new j).fed) (j := j) (p := 0) (k := 0)
  obtain ⟨g1, g2, g3⟩ := give_same (d := (D.new j).come) (k := (D.new j).O) (p := (D.new j).pages)
  have hpg : (((D.new j).fed.pop j 0).cut 0 j 0).pages = 2 ^ j := by rw [f2]; show ((D.new j).come.give (D.new j).O (D.new j).pages).pages = _; rw [g2]; exact Nat.zero_add _
  have hOO : (((D.new j).fed.pop j 0).cut 0 j 0).O = j := by rw [f3]; exact g3
  have hn : σ'.n = 1 := by rw [hu2.n, hu1.n]; rfl
  have hj8 := hc.order
  refine ent_joinP (A := Unit) (fun _ _ => True) (fun _ => [isPool p s m b, isG (fun _ => False) b s m σ' (((D.new j).fed.pop j 0).cut 0 j 0), blk x1 24 [vU b0, vI n, vI j], was W]) (fun _ x13 _ => ?_) (fun k20 h20 => ?_)
  rotate_left
  · refine ent_draw ?_
    refine ent_ne (fun c => absurd rfl c) (fun _ => ?_)
    refine ent_not (fun c => Bool.noConfusion (show true = false from c)) (fun _ => ?_)
    refine ent_drS ?_
    refine space_ct6 (p := p) (s := s) (m := m) (b := b) ?_
    refine ent_samePtr (el := 159) (by kernel_rfl) (by kernel_rfl) ?_
    refine ent_not (fun c => Bool.noConfusion (show true = false from c)) (fun _ => ?_)
    refine ent_drS ?_
    refine map_ct6 (p := p) (s := s) (m := m) (b := b) ?_
    refine ent_samePtr (el := 162) (by kernel_rfl) (by kernel_rfl) ?_
    refine ent_not (fun c => Bool.noConfusion (show true = false from c)) (fun _ => ?_)
    refine ent_drS ?_
    refine buddy_ct6 (p := p) (s := s) (m := m) (b := b) ?_
    refine ent_samePtr (el := 146) (by kernel_rfl) (by kernel_rfl) ?_
    refine ent_not (fun c => Bool.noConfusion (show true = false from c)) (fun _ => ?_)
    refine regionsG_ct (σ := σ') ?_
    refine ent_ne (fun c => absurd (show ((σ'.n : Nat) : Int) = 1 by rw [hn]; rfl) c) (fun _ => ?_)
    refine ent_ld (j : Int) ?_
    refine ent_g0 (by omega) ?_
    refine pagesG_ct (d := ((D.new j).fed.pop j 0).cut 0 j 0) ?_
    refine ent_keepB (ent_keep0 ?_)
    refine ent_ne (fun c => absurd (show (((((D.new j).fed.pop j 0).cut 0 j 0).pages : Nat) : Int) = wI (1 * 2 ^ min (j : Int).toNat 64) by rw [hpg, shlI_eq (by omega)]) c) (fun _ => ?_)
    exact h20 () _ trivial
  refine ent_G_rep (σ := σ') (d := ((D.new j).fed.pop j 0).cut 0 j 0) (fun _ _ R => ?_)
  have hbase : 0 < σ'.base := R.sok.base
  refine headsG_ct (σ := σ') (d := ((D.new j).fed.pop j 0).cut 0 j 0) fun q => ?_
  refine ent_len (sh := sU) (xs := tab ((((D.new j).fed.pop j 0).cut 0 j 0).O + 1) fun i => ((hdA σ' 0 ((((D.new j).fed.pop j 0).cut 0 j 0).free i) : Nat) : Int)) .here fun hl => ?_
  rw [tab_len, hOO] at hl
  refine ent_draw ?_
  refine ent_ld (j : Int) ?_
  refine ent_eq (fun _ => ?_) (fun c => absurd (show ((q.len : Nat) : Int) = wI ((j : Int) + 1) by rw [hl, wI_succ (by omega)]) c)
  refine ent_ld (j : Int) ?_
  refine ent_at (I := 0) (w := 1) (sh := sU) (xs := tab ((((D.new j).fed.pop j 0).cut 0 j 0).O + 1) fun i => ((hdA σ' 0 ((((D.new j).fed.pop j 0).cut 0 j 0).free i) : Nat) : Int)) 0 ((hdA σ' 0 ((((D.new j).fed.pop j 0).cut 0 j 0).free 0) : Nat) : Int) rfl (tab_get (by omega)) ?_ .here
  have hres : (((j : Int) == 0) == (((hdA σ' 0 ((((D.new j).fed.pop j 0).cut 0 j 0).free 0) : Nat) : Int) == 0)) = true := by
    by_cases h0 : j = 0
    · have h1 := (hdA_zero hbase).2 (hk0.1 h0)
      rw [h1, h0]; rfl
    · have h1 : hdA σ' 0 ((((D.new j).fed.pop j 0).cut 0 j 0).free 0) ≠ 0 := fun hh => h0 (hk0.2 ((hdA_zero hbase).1 hh))
      have e1 : ((j : Int) == 0) = false := by simp; omega
      have e2 : (((hdA σ' 0 ((((D.new j).fed.pop j 0).cut 0 j 0).free 0) : Nat) : Int) == 0) = false := by simp; omega
      rw [e1, e2]; rfl
  show ent _ _ (ret (vB (((j : Int) == 0) == (((hdA σ' 0 ((((D.new j).fed.pop j 0).cut 0 j 0).free 0) : Nat) : Int) == 0))))
  rw [hres]
  exact ent_done h

theorem news_ct {x y z : Int} {ret : Value → World → Prop} {pan : List PanicEntry → World → Prop} (hx : 0 ≤ x) (hx2 : x < 18446744073709551616)
    (h : ∀ w, Below W.heap.size W w → ret (.bool true) w) :
    ent (still W) [was W] (funcF (wpM PR) PR Go.Proofs.Try.f12 [.agg #[vU x, vI y, vI z]] ret pan) := by
  rw [nf12_eq]
  refine ent_new fun x1 => ?_
  refine awake_ct ?_
  refine ent_not (fun c => Bool.noConfusion (show true = false from c)) (fun _ => ?_)
  refine ent_ldA (x, y, z, ()) ?_
  refine regionNew_ct hx hx2 (fun b0 n k hc a1 a2 a3 p s m b => ?_) (fun hno => ?_)
  rotate_left
  · refine ent_ldA (x, y, z, ()) ?_
    refine mayRef_ct hx hx2 (fun b0 n k e1 e2 e3 hc => absurd ⟨b0, n, k, e1, e2, e3, hc⟩ hno) (fun _ => ?_)
    exact ent_not (fun _ => ent_done h) (fun c => Bool.noConfusion (show false = true from c))
  subst a1 a2 a3
  refine ent_ldA ((b0 : Int), (n : Int), (k : Int), ()) ?_
  refine mayRef_ct hx hx2 (fun _ _ _ _ _ _ _ => ?_) (fun hno => absurd ⟨b0, n, k, rfl, rfl, rfl, hc⟩ hno)
  refine ent_not (fun c => Bool.noConfusion (show true = false from c)) (fun _ => ?_)
  refine ent_draw ?_
  refine ent_eq (fun _ => ?_) (fun c => absurd rfl c)
  refine ent_drS ?_
  refine space_ct6 (p := p) (s := s) (m := m) (b := b) ?_
  refine regionsG_ct (σ := ⟨b0, n, k, 0, fun _ => 0⟩) ?_
  refine ent_eq (fun _ => ?_) (fun c => absurd rfl c)
  refine ent_drS ?_
  refine ent_ld (b0 : Int) ?_
  refine space_ct6 (p := p) (s := s) (m := m) (b := b) ?_
  refine ent_keepB (ent_keep0 ?_)
  refine endG_ct (σ := ⟨b0, n, k, 0, fun _ => 0⟩) ?_
  refine ent_keepB (ent_keep0 ?_)
  refine ent_eq (fun _ => ?_) (fun c => absurd (show (((b0 + Sp.size ⟨b0, n, k, 0, fun _ => 0⟩ * 0 : Nat) : Int)) = (b0 : Int) by rw [Nat.mul_zero, Nat.add_zero]) c)
  refine ent_drS ?_
  refine map_ct6 (p := p) (s := s) (m := m) (b := b) ?_
  refine pagesG_ct (d := D.new k) ?_
  refine ent_eq (fun _ => ?_) (fun c => absurd rfl c)
  refine ent_drS ?_
  refine ent_ld (k : Int) ?_
  refine buddy_ct6 (p := p) (s := s) (m := m) (b := b) ?_
  refine ent_keepB (ent_keep0 ?_)
  refine headsG_ct (σ := ⟨b0, n, k, 0, fun _ => 0⟩) (d := D.new k) fun q => ?_
  refine ent_keepB (ent_keep0 ?_)
  refine ent_len (sh := sU) (xs := tab ((D.new k).O + 1) fun i => ((hdA ⟨b0, n, k, 0, fun _ => 0⟩ 0 ((D.new k).free i) : Nat) : Int)) .here fun hl => ?_
  rw [tab_len] at hl
  have hl : q.len = k + 1 := hl
  have hk8 := hc.order
  refine ent_eq (fun _ => ?_) (fun c => absurd (show ((q.len : Nat) : Int) = wI ((k : Int) + 1) by rw [hl, wI_succ (by omega)]) c)
  refine trim0_ct (p := p) (s := s) (m := m) (b := b) (S := fun _ => False) (σ := ⟨b0, n, k, 0, fun _ => 0⟩) (d := D.new k) rfl ?_
  exact ent_done h

end Go.Proofs.Ytdmfnlcbfmahhaa
