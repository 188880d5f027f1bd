/- What the functions of the simulated memory do. -/
import Derived.Test.YtdmfnlcbfmahhaaHlMem
import Derived.Test.YtdmfnlcbfmahhaaHlDefer
import Derived.Test.YtdmfnlcbfmahhaaNfMem
namespace Go.Proofs.Ytdmfnlcbfmahhaa
open Go Hl
set_option maxRecDepth 100000

noncomputable abbrev PR : Program := Go.Proofs.Try.prog

variable {e : Still} {l r : List HP}

theorem Hl.Sub.untake {l r : List HP} {p : HP} (k : Take l p r) : Sub (p :: r) l := fun _ y => star_mono (fun _ z => k.back z) (fun _ z => z) y

/-! ## The space -/

structure Sp where
  base : Nat
  limit : Nat
  order : Nat
  n : Nat
  mem : Nat → Nat

def Sp.size (σ : Sp) : Nat := 4096 * 2 ^ σ.order

structure Sp.Ok (σ : Sp) : Prop where
  base : 0 < σ.base
  order : σ.order ≤ 8
  n : σ.n ≤ σ.limit
  limit : σ.limit * 2 ^ σ.order ≤ 1024
  top : σ.base + σ.size * σ.limit ≤ 9223372036854775808
  mem : ∀ i, σ.mem i < 256
  align : σ.base % σ.size = 0

def partsOf (size : Nat) (gs : List Nat) : List Sl := gs.map fun g => ⟨some ⟨g, 0, none⟩, size, size⟩

def isSpace (s : Nat) (σ : Sp) : HP := ex fun pg : Sl × List Nat => all [fact (σ.Ok ∧ pg.2.length = σ.n),
  blk s 159 [vU σ.base, vI σ.limit, vI σ.order, vU σ.size, .slice pg.1.base pg.1.len pg.1.cap],
  arr 63 sS pg.1 (partsOf σ.size pg.2), mems 5 pg.2 σ.size σ.mem]

theorem ent_space {s : Nat} {σ : Sp} {X : World → Prop} (k : Take l (isSpace s σ) r)
    (h : ∀ (ps : Sl) (gs : List Nat), σ.Ok → gs.length = σ.n → ps.len = σ.n →
      (∀ σ' : Sp, σ'.Ok → σ'.base = σ.base → σ'.limit = σ.limit → σ'.order = σ.order → σ'.n = σ.n → ∀ r', Sub (blk s 159 [vU σ.base, vI σ.limit, vI σ.order, vU σ.size, .slice ps.base ps.len ps.cap] ::
        arr 63 sS ps (partsOf σ.size gs) :: mems 5 gs σ.size σ'.mem :: r') (isSpace s σ' :: r')) →
      ent e (blk s 159 [vU σ.base, vI σ.limit, vI σ.order, vU σ.size, .slice ps.base ps.len ps.cap] :: arr 63 sS ps (partsOf σ.size gs) :: mems 5 gs σ.size σ.mem :: r) X) : ent e l X := by
  refine ent_ex k fun pg => ent_all .here ?_
  refine ent_fact .here fun hf => ?_
  intro w hw
  have hl : pg.1.len = σ.n := by
    obtain ⟨a, b, s', hs', _⟩ := (show Take _ (arr _ sS pg.1 (partsOf σ.size pg.2)) _ from .there .here).part hw.heap
    rcases hs' with ⟨h1, h2, _⟩ | ⟨_, _, _, e2, _⟩
    · rw [h1]
      have : pg.2.length = 0 := by simpa [partsOf] using congrArg List.length h2
      rw [← hf.2, this]
    · rw [e2]; simp [partsOf, hf.2]
  refine h pg.1 pg.2 hf.1 hf.2 hl ?_ w hw
  intro σ' ho h1 h2 h3 h4 r'
  refine Sub.ex (pg.1, pg.2) (Sub.all ?_)
  refine Sub.fact ⟨ho, by rw [h4]; exact hf.2⟩ ?_
  show Sub _ (blk s _ [vU σ'.base, vI σ'.limit, vI σ'.order, vU σ'.size, _] :: _)
  have h5 : σ'.size = σ.size := by unfold Sp.size; rw [h3]
  rw [h1, h2, h3, h5]
  exact Sub.refl

theorem Sp.Ok.size_pos {σ : Sp} : 0 < σ.size := Nat.mul_pos (by omega) (Nat.pow_pos (by omega))

theorem Sp.Ok.size_le {σ : Sp} (h : σ.Ok) : σ.size ≤ 1048576 := by
  have : 2 ^ σ.order ≤ 2 ^ 8 := Nat.pow_le_pow_right (by omega) h.order
  unfold Sp.size; omega

theorem Sp.Ok.end_le {σ : Sp} (h : σ.Ok) : σ.base + σ.size * σ.n ≤ 9223372036854775808 := by
  have : σ.size * σ.n ≤ σ.size * σ.limit := Nat.mul_le_mul_left _ h.n
  have := h.top
  omega

theorem regions_ct {s : Nat} {σ : Sp} {K : Tup [sI] → World → Prop} {KP : List PanicEntry → World → Prop} (k : Take l (isSpace s σ) r) (h : ent e l (K ((σ.n : Int), ()))) :
    ent e l ((wpM PR).call 37 [vP s] [sI] K KP) := by
  refine ent_call (fn := Go.Proofs.Try.f37) (by kernel_rfl) ?_
  rw [nf37_eq]
  refine ent_space k fun ps gs ho hg hl back => ?_
  refine ent_load1 ps .here rfl ?_
  exact ent_sub (Sub.trans (back σ ho rfl rfl rfl rfl r) (Sub.untake k)) (show ent e l (K ((ps.len : Int), ())) by rw [hl]; exact h)

theorem end_ct {s : Nat} {σ : Sp} {K : Tup [sU] → World → Prop} {KP : List PanicEntry → World → Prop} (k : Take l (isSpace s σ) r) (h : ent e l (K (((σ.base + σ.size * σ.n : Nat) : Int), ()))) :
    ent e l ((wpM PR).call 57 [vP s] [sU] K KP) := by
  refine ent_call (fn := Go.Proofs.Try.f57) (by kernel_rfl) ?_
  rw [nf57_eq]
  refine ent_space k fun ps gs ho hg hl back => ?_
  refine ent_draw ?_
  refine ent_load1 (σ.base : Int) .here rfl ?_
  refine ent_load1 (σ.size : Int) .here rfl ?_
  refine ent_load1 ps .here rfl ?_
  have h1 := ho.end_le
  have e1 : wU ((σ.base : Int) + wU ((σ.size : Int) * wU (ps.len : Int))) = ((σ.base + σ.size * σ.n : Nat) : Int) := by
    rw [hl]
    have hn : σ.n ≤ σ.size * σ.n := Nat.le_mul_of_pos_left _ Sp.Ok.size_pos
    rw [wU_nat (by omega), ← Int.natCast_mul, wU_nat (by omega), ← Int.natCast_add, wU_nat (by omega)]
  rw [e1]
  exact ent_sub (Sub.trans (back σ ho rfl rfl rfl rfl r) (Sub.untake k)) h

/-- Are there 'n' bytes at an address? -/
def Sp.has (σ : Sp) (p n : Nat) : Prop := n = 0 ∨ (σ.base ≤ p ∧ p + n ≤ σ.base + σ.size * σ.n)

instance (σ : Sp) (p n : Nat) : Decidable (σ.has p n) := inferInstanceAs (Decidable (_ ∨ _))

def fault : List PanicEntry := [⟨.iface 197 (.agg #[vI 4]), false, false⟩]

theorem ent_space_ok {s : Nat} {σ : Sp} {X : World → Prop} (k : Take l (isSpace s σ) r) (h : σ.Ok → ent e l X) : ent e l X := by
  refine ent_space k fun ps gs ho hg hl back => ?_
  exact ent_sub (Sub.trans (back σ ho rfl rfl rfl rfl r) (Sub.untake k)) (h ho)

theorem ent_space_base {s : Nat} {σ : Sp} {K : Int → World → Prop} (k : Take l (isSpace s σ) r) (h : ent e l (K σ.base)) : ent e l ((wpM PR).load sU ⟨s, 0, none⟩ K) := by
  refine ent_space k fun ps gs ho hg hl back => ?_
  refine ent_load1 (σ.base : Int) .here rfl ?_
  exact ent_sub (Sub.trans (back σ ho rfl rfl rfl rfl r) (Sub.untake k)) h

theorem look_ct {s : Nat} {σ : Sp} {K : Tup [] → World → Prop} {KP : List PanicEntry → World → Prop} {x y : Int} (p n : Nat) (k : Take l (isSpace s σ) r) (hx : x = p) (hy : y = n) (hn : n < 18446744073709551616)
    (h1 : σ.has p n → ent e l (K ())) (h2 : ¬ σ.has p n → ent e l (KP fault)) :
    ent e l ((wpM PR).call 87 [vP s, vU x, vU y] [] K KP) := by
  subst hx hy
  refine ent_call (fn := Go.Proofs.Try.f87) (by kernel_rfl) ?_
  rw [nf87_eq]
  refine ent_space_ok k fun ho => ?_
  have he := ho.end_le
  refine ent_cond (fun c => ?_) (fun c => ?_)
  · have hn0 : n ≠ 0 := by simpa using c
    refine ent_space_base k ?_
    refine ent_cond (fun c1 => ?_) (fun c1 => ?_)
    · refine h2 fun h => ?_
      have : p < σ.base := by simpa using c1
      unfold Sp.has at h; omega
    · have c1 : σ.base ≤ p := by simpa using c1
      refine end_ct k ?_
      refine ent_cond (fun c2 => ?_) (fun c2 => ?_)
      · refine h2 fun h => ?_
        have : σ.base + σ.size * σ.n < p := by have := of_decide_eq_true c2; simp only at this; omega
        unfold Sp.has at h; omega
      · have c2 : p ≤ σ.base + σ.size * σ.n := by have := of_decide_eq_false c2; simp only at this; omega
        refine end_ct k ?_
        have e1 : wU (((σ.base + σ.size * σ.n : Nat) : Int) - (p : Int)) = ((σ.base + σ.size * σ.n - p : Nat) : Int) := wU_sub c2 (by omega)
        refine ent_cond (fun c3 => ?_) (fun c3 => ?_)
        · refine h2 fun h => ?_
          have c3 := of_decide_eq_true c3
          simp only [e1] at c3
          unfold Sp.has at h; omega
        · refine h1 (.inr ?_)
          have c3 := of_decide_eq_false c3
          simp only [e1] at c3
          omega
  · exact h1 (.inl (by simpa using c))

/-! ## Many bytes -/

def Sp.bytes (σ : Sp) (p n : Nat) : List Value := (List.range n).map fun x => v8 (σ.mem (p - σ.base + x))

theorem Sp.bytes_length {σ : Sp} {p n : Nat} : (σ.bytes p n).length = n := by simp [Sp.bytes]

theorem Sp.bytes_add {σ : Sp} {p j m : Nat} : σ.bytes p (j + m) = σ.bytes p j ++ (List.range m).map fun x => v8 (σ.mem (p - σ.base + j + x)) := by
  simp [Sp.bytes, List.range_add, Nat.add_assoc]

/-- A block with some of its cells other. -/
def spliced (us : List Value) (o : Nat) (vs : List Value) : List Value := us.take o ++ vs ++ us.drop (o + vs.length)

theorem spliced_nil {us : List Value} {o : Nat} : spliced us o [] = us := by simp [spliced]

theorem spliced_more {us vs ws : List Value} {o : Nat} (h : o + vs.length + ws.length ≤ us.length) :
    (spliced us o vs).take (o + vs.length) ++ ws ++ (spliced us o vs).drop (o + vs.length + ws.length) = spliced us o (vs ++ ws) := by
  have h1 : (us.take o ++ vs).length = o + vs.length := by simp; omega
  unfold spliced
  rw [show (us.take o ++ vs ++ us.drop (o + vs.length)).take (o + vs.length) = us.take o ++ vs by rw [← h1, List.take_left]]
  rw [show (us.take o ++ vs ++ us.drop (o + vs.length)).drop (o + vs.length + ws.length) = us.drop (o + vs.length + ws.length) by
    rw [← h1, ← List.drop_drop, List.drop_left, List.drop_drop, h1]]
  simp [Nat.add_assoc]

theorem partsOf_get {size : Nat} {gs : List Nat} {q g : Nat} (h : gs[q]? = some g) : (partsOf size gs)[q]? = some ⟨some ⟨g, 0, none⟩, size, size⟩ := by
  simp [partsOf, h]

theorem get_ct {s : Nat} {σ : Sp} {K : Tup [] → World → Prop} {KP : List PanicEntry → World → Prop} {x : Int} {b o n c : Nat} {tb : TypeId} {us : List Value} {r' : List HP} (p : Nat) (k : Take l (isSpace s σ) r) (kb : Take r (blk b tb us) r') (hx : x = p)
    (hp : σ.has p n) (hp64 : p < 18446744073709551616) (hn : n ≤ c) (ho : o + n ≤ us.length)
    (h : ent e (isSpace s σ :: blk b tb (spliced us o (σ.bytes p n)) :: r') (K ())) :
    ent e l ((wpM PR).call 110 [vP s, vU x, .slice (some ⟨b, o, none⟩) n c] [] K KP) := by
  subst hx
  refine ent_call (fn := Go.Proofs.Try.f110) (by kernel_rfl) ?_
  refine Eq.mp (congrArg (ent e l) (nf110_eq (wpM PR) s p ⟨some ⟨b, o, none⟩, n, c⟩ _ KP).symm) ?_
  refine ent_loop (S := Nat × Option Addr) (fun s => (⟨s.2, n - s.1, c - s.1⟩, ((p + s.1 : Nat) : Int), ())) (fun t => isSpace s σ :: blk b tb (spliced us o (σ.bytes p t.1)) :: r')
    (fun t => t.1 ≤ n ∧ (t.1 < n → t.2 = some ⟨b, o + t.1, none⟩)) (fun t => n - t.1) (0, some ⟨b, o, none⟩) rfl ⟨Nat.zero_le _, fun _ => rfl⟩ ?_ ?_
  · intro hh y
    refine star_mono (fun _ z => z) (fun _ z => ?_) (k.stars y)
    have : σ.bytes p 0 = [] := by simp [Sp.bytes]
    show stars (blk b tb (spliced us o (σ.bytes p 0)) :: r') _
    rw [this, spliced_nil]
    exact kb.stars z
  · rintro kk ⟨j, ba⟩ ⟨hj, hba⟩ hk
    simp only at hj hba hk ⊢
    refine ent_cond (fun c1 => ?_) (fun c1 => ?_)
    · have hjn : j < n := by have := of_decide_eq_true c1; omega
      have hp : σ.base ≤ p ∧ p + n ≤ σ.base + σ.size * σ.n := by rcases hp with h | h <;> omega
      have hba := hba hjn
      subst hba
      refine ent_space .here fun ps gs hok hg hl back => ?_
      have he := hok.end_le
      have hsz : 0 < σ.size := Sp.Ok.size_pos
      have hszl := hok.size_le
      have hs0 : (σ.size : Int) ≠ 0 := by omega
      refine ent_load1 (σ.base : Int) .here rfl ?_
      refine ent_draw ?_
      refine ent_load1 ps .here rfl ?_
      refine ent_load1 (σ.size : Int) .here rfl ?_
      rw [wU_sub (by omega) (by omega), tdiv_nat, wU_nat (by have := Nat.div_le_self (p + j - σ.base) σ.size; omega)]
      have hq : (p + j - σ.base) / σ.size < σ.n := (Nat.div_lt_iff_lt_mul hsz).2 (by rw [Nat.mul_comm]; omega)
      have hi : (p + j - σ.base) % σ.size < σ.size := Nat.mod_lt _ hsz
      have hdm := Nat.div_add_mod (p + j - σ.base) σ.size
      generalize (p + j - σ.base) / σ.size = q at *
      have hgq : gs[q]? = some (gs[q]'(by omega)) := List.getElem?_eq_getElem _
      generalize gs[q]'(by omega) = g at hgq
      refine ent_guard hs0 (ent_guard (by omega) ?_)
      refine ent_get ⟨some ⟨g, 0, none⟩, σ.size, σ.size⟩ (.there .here) (by rw [Int.toNat_natCast]; exact partsOf_get hgq) ?_
      refine ent_load1 (σ.size : Int) .here rfl ?_
      rw [tmod_nat]
      generalize (p + j - σ.base) % σ.size = i at *
      refine ent_guard hs0 (ent_guard (by simp only; omega) ?_)
      simp only [Int.toNat_natCast, show ¬ (σ.size = i) by omega, if_false, Option.map_some, add_mk, Nat.zero_add, Nat.mul_one]
      have hidx : q * σ.size + i = p - σ.base + j := by rw [Nat.mul_comm]; omega
      refine ent_copy_out (el := 5) (by kernel_rfl) (by kernel_rfl) (.there (.there .here)) (.there (.there (.there .here))) hgq (min (σ.size - i) (n - j)) rfl (by omega) (by simp [spliced, Sp.bytes_length]; omega) ?_
      rw [hidx]
      generalize hm : min (σ.size - i) (n - j) = m
      have hm0 : 0 < m := by omega
      have hlen : (σ.bytes p j).length = j := Sp.bytes_length
      have hsp := spliced_more (us := us) (vs := σ.bytes p j) (ws := (List.range m).map fun x => v8 (σ.mem (p - σ.base + j + x))) (o := o) (by simp [hlen]; omega)
      rw [hlen, List.length_map, List.length_range, ← Sp.bytes_add] at hsp
      rw [hsp]
      refine ent_guard (show (0 : Int) ≤ (m : Int) ∧ (m : Int) ≤ ((n - j : Nat) : Int) ∧ ((n - j : Nat) : Int) ≤ ((c - j : Nat) : Int) ∧ ((c - j : Nat) : Int) ≤ ((c - j : Nat) : Int) by omega) ?_
      refine ent_sub (Sub.trans (Sub.cons (.there .here) (Sub.cons (.there .here) (Sub.cons (.there .here) .refl))) (back σ hok rfl rfl rfl rfl _)) ?_
      have e2 : wU (((p + j : Nat) : Int) + wU (m : Int)) = ((p + (j + m) : Nat) : Int) := by rw [wU_nat (by omega), ← Int.natCast_add, wU_nat (by omega), Nat.add_assoc]
      rw [e2, Int.toNat_natCast, Nat.sub_sub, Nat.sub_sub]
      refine hk (j + m, _) ⟨by omega, fun hlt => ?_⟩ (by simp only; omega)
      simp only at hlt
      show (if c - j = m then some ⟨b, o + j, none⟩ else some ⟨b, o + j + m, none⟩) = some (⟨b, o + (j + m), none⟩ : Addr)
      rw [if_neg (by omega), Nat.add_assoc]
    · have hjn : j = n := by have := of_decide_eq_false c1; omega
      subst hjn
      exact h

/-- The space with bytes laid over. -/
def Sp.over (σ : Sp) (p : Nat) (bs : List Nat) : Sp := { σ with mem := Hl.over σ.mem (p - σ.base) bs }

theorem over_lt {mem : Nat → Nat} {p : Nat} {bs : List Nat} (h : ∀ i, mem i < 256) (hb : ∀ b ∈ bs, b < 256) (i : Nat) : Hl.over mem p bs i < 256 := by
  unfold Hl.over
  split
  · cases hx : bs[i - p]? with
    | none => exact h i
    | some b => exact hb b (List.mem_of_getElem? hx)
  · exact h i

theorem Sp.Ok.over {σ : Sp} (h : σ.Ok) {p : Nat} {bs : List Nat} (hb : ∀ b ∈ bs, b < 256) : (σ.over p bs).Ok := ⟨h.base, h.order, h.n, h.limit, h.top, over_lt h.mem hb, h.align⟩

theorem over_append {mem : Nat → Nat} {p : Nat} {cs bs : List Nat} : Hl.over (Hl.over mem p cs) (p + cs.length) bs = Hl.over mem p (cs ++ bs) := by
  funext i
  unfold Hl.over
  by_cases h1 : p + cs.length ≤ i
  · rw [if_pos h1, if_pos (by omega), if_pos (by omega), List.getElem?_append_right (by omega), Nat.sub_add_eq]
    rw [List.getElem?_eq_none (l := cs) (by omega)]
    rfl
  · rw [if_neg h1]
    by_cases h2 : p ≤ i
    · rw [if_pos h2, if_pos h2, List.getElem?_append_left (by omega)]
    · rw [if_neg h2, if_neg h2]

theorem over_nil {mem : Nat → Nat} {p : Nat} : Hl.over mem p [] = mem := by
  funext i
  unfold Hl.over
  split <;> simp

theorem put_ct {s : Nat} {σ : Sp} {K : Tup [] → World → Prop} {KP : List PanicEntry → World → Prop} {x : Int} {b o n c : Nat} (p : Nat) (bs : List Nat) (k : Take l (isSpace s σ) r) (hx : x = p) (hlen : bs.length = n)
    (hp : σ.has p n) (hp64 : p < 18446744073709551616) (hn : n ≤ c) (hb : ∀ b ∈ bs, b < 256) (hs : ∀ w, Sat e r w → Hl.rowAt w ⟨b, o, none⟩ (bs.map fun y : Nat => v8 (y : Int)))
    (h : ent e (isSpace s (σ.over p bs) :: r) (K ())) :
    ent e l ((wpM PR).call 101 [vP s, vU x, .slice (some ⟨b, o, none⟩) n c] [] K KP) := by
  subst hx hlen
  refine ent_call (fn := Go.Proofs.Try.f101) (by kernel_rfl) ?_
  refine Eq.mp (congrArg (ent e l) (nf101_eq (wpM PR) s p ⟨some ⟨b, o, none⟩, bs.length, c⟩ _ KP).symm) ?_
  refine ent_space_ok k fun hok => ?_
  refine ent_loop (S := Nat × Option Addr) (fun s => (⟨s.2, bs.length - s.1, c - s.1⟩, ((p + s.1 : Nat) : Int), ())) (fun t => isSpace s (σ.over p (bs.take t.1)) :: r)
    (fun t => t.1 ≤ bs.length ∧ (t.1 < bs.length → t.2 = some ⟨b, o + t.1, none⟩)) (fun t => bs.length - t.1) (0, some ⟨b, o, none⟩) rfl ⟨Nat.zero_le _, fun _ => rfl⟩ ?_ ?_
  · intro hh y
    show stars (isSpace s (σ.over p (bs.take 0)) :: r) _
    rw [List.take_zero, show σ.over p [] = σ by unfold Sp.over; rw [over_nil]]
    exact k.stars y
  · rintro kk ⟨j, ba⟩ ⟨hj, hba⟩ hk
    simp only at hj hba hk ⊢
    refine ent_cond (fun c1 => ?_) (fun c1 => ?_)
    · have hjn : j < bs.length := by have := of_decide_eq_true c1; omega
      have hp : σ.base ≤ p ∧ p + bs.length ≤ σ.base + σ.size * σ.n := by rcases hp with h | h <;> omega
      have hba := hba hjn
      subst hba
      refine ent_space .here fun ps gs _ hg hl back => ?_
      show ent e (blk s _ [vU σ.base, vI σ.limit, vI σ.order, vU σ.size, .slice ps.base ps.len ps.cap] :: arr _ sS ps (partsOf σ.size gs) :: mems _ gs σ.size (Hl.over σ.mem (p - σ.base) (bs.take j)) :: r) _
      have hg : gs.length = σ.n := hg
      have hl : ps.len = σ.n := hl
      have he := hok.end_le
      have hsz : 0 < σ.size := Sp.Ok.size_pos
      have hszl := hok.size_le
      have hs0 : (σ.size : Int) ≠ 0 := by omega
      refine ent_load1 (σ.base : Int) .here rfl ?_
      refine ent_draw ?_
      refine ent_load1 ps .here rfl ?_
      refine ent_load1 (σ.size : Int) .here rfl ?_
      rw [wU_sub (by omega) (by omega), tdiv_nat, wU_nat (by have := Nat.div_le_self (p + j - σ.base) σ.size; omega)]
      have hq : (p + j - σ.base) / σ.size < σ.n := (Nat.div_lt_iff_lt_mul hsz).2 (by rw [Nat.mul_comm]; omega)
      have hi : (p + j - σ.base) % σ.size < σ.size := Nat.mod_lt _ hsz
      have hdm := Nat.div_add_mod (p + j - σ.base) σ.size
      generalize (p + j - σ.base) / σ.size = q at *
      have hgq : gs[q]? = some (gs[q]'(by omega)) := List.getElem?_eq_getElem _
      generalize gs[q]'(by omega) = g at hgq
      refine ent_guard hs0 (ent_guard (by omega) ?_)
      refine ent_get ⟨some ⟨g, 0, none⟩, σ.size, σ.size⟩ (.there .here) (by rw [Int.toNat_natCast]; exact partsOf_get hgq) ?_
      refine ent_load1 (σ.size : Int) .here rfl ?_
      rw [tmod_nat]
      generalize (p + j - σ.base) % σ.size = i at *
      refine ent_guard hs0 (ent_guard (by simp only; omega) ?_)
      simp only [Int.toNat_natCast, show ¬ (σ.size = i) by omega, if_false, Option.map_some, add_mk, Nat.zero_add, Nat.mul_one]
      have hidx : q * σ.size + i = p - σ.base + j := by rw [Nat.mul_comm]; omega
      have hml : ((bs.drop j).take (min (σ.size - i) (bs.length - j))).length = min (bs.length - j) (σ.size - i) := by simp; omega
      refine ent_copy_in (el := 5) ((bs.drop j).take (min (σ.size - i) (bs.length - j))) (by kernel_rfl) (by kernel_rfl) (.there (.there .here)) hgq hml (by omega) (fun w hw => ?_) ?_
      · intro x v hv
        have hx : x < min (bs.length - j) (σ.size - i) := by have := (List.getElem?_eq_some_iff.1 hv).1; simpa [Nat.min_comm] using this
        rw [add_mk, Nat.add_assoc, ← add_mk]
        refine hs w hw.drop.drop.drop (j + x) v ?_
        rw [List.getElem?_map, List.getElem?_take, if_pos (by omega), List.getElem?_drop] at hv
        rw [List.getElem?_map]
        exact hv
      · rw [hidx]
        generalize hm : min (σ.size - i) (bs.length - j) = m at *
        have hm0 : 0 < m := by omega
        have hml : ((bs.drop j).take m).length = m := by omega
        rw [hml]
        have hov : Hl.over (Hl.over σ.mem (p - σ.base) (bs.take j)) (p - σ.base + j) ((bs.drop j).take m) = (σ.over p (bs.take (j + m))).mem := by
          have hl : (bs.take j).length = j := by simp; omega
          have := over_append (mem := σ.mem) (p := p - σ.base) (cs := bs.take j) (bs := (bs.drop j).take m)
          rw [hl, ← List.take_add] at this
          exact this
        rw [hov]
        refine ent_guard (show (0 : Int) ≤ (m : Int) ∧ (m : Int) ≤ ((bs.length - j : Nat) : Int) ∧ ((bs.length - j : Nat) : Int) ≤ ((c - j : Nat) : Int) ∧ ((c - j : Nat) : Int) ≤ ((c - j : Nat) : Int) by omega) ?_
        refine ent_sub (Sub.trans (Sub.cons (.there .here) (Sub.cons (.there .here) (Sub.cons .here .refl))) (back (σ.over p (bs.take (j + m))) (hok.over fun b hbm => hb b (List.mem_of_mem_take hbm)) rfl rfl rfl rfl _)) ?_
        have e2 : wU (((p + j : Nat) : Int) + wU (m : Int)) = ((p + (j + m) : Nat) : Int) := by rw [wU_nat (by omega), ← Int.natCast_add, wU_nat (by omega), Nat.add_assoc]
        rw [e2, Int.toNat_natCast, Nat.sub_sub, Nat.sub_sub]
        refine hk (j + m, _) ⟨by omega, fun hlt => ?_⟩ (by simp only; omega)
        simp only at hlt
        show (if c - j = m then some ⟨b, o + j, none⟩ else some ⟨b, o + j + m, none⟩) = some (⟨b, o + (j + m), none⟩ : Addr)
        rw [if_neg (by omega), Nat.add_assoc]
    · have hjn : j = bs.length := by have := of_decide_eq_false c1; omega
      subst hjn
      rw [List.take_length]
      exact h

/-! ## Words -/

theorem caught_nil_ct {a : Nat} {K : Tup [] → World → Prop} {KP : List PanicEntry → World → Prop} (h : ent e l (K ())) : ent e l ((wpM PR).call 86 [.nilIface, vP a] [] K KP) := by
  refine ent_call (fn := Go.Proofs.Try.f86) (by kernel_rfl) ?_
  rw [nf86Nil_eq]
  exact h

theorem caught_ct {a : Nat} {t : TypeId} {x : Int} {K : Tup [] → World → Prop} {KP : List PanicEntry → World → Prop} (k : Take l (blk a t [vI x]) r) (h : ent e (blk a t [vI 4] :: r) (K ())) :
    ent e l ((wpM PR).call 86 [.iface 197 (.agg #[vI 4]), vP a] [] K KP) := by
  refine ent_call (fn := Go.Proofs.Try.f86) (by kernel_rfl) ?_
  rw [nf86Fault_eq]
  refine ent_new fun b => ?_
  refine ent_store .here (by intro u hu; simp at hu; subst hu; rfl) (by simp) ?_
  refine ent_join (ent_load1 (4 : Int) .here rfl ?_)
  refine ent_store (.there k) (by intro u hu; simp at hu; subst hu; rfl) (by simp) ?_
  exact ent_sub (Sub.cons .here (Sub.drop .refl)) h

def wordN (mem : Nat → Nat) (p : Nat) : Nat → Nat
  | 0 => 0
  | k + 1 => wordN mem p k + mem (p + k) * 256 ^ k

theorem wordN_lt {mem : Nat → Nat} {p : Nat} (h : ∀ i, mem i < 256) (k : Nat) : wordN mem p k < 256 ^ k := by
  induction k with
  | zero => simp [wordN]
  | succ k ih =>
    have h1 := h (p + k)
    have h2 : mem (p + k) * 256 ^ k ≤ 255 * 256 ^ k := Nat.mul_le_mul_right _ (by omega)
    simp only [wordN, Nat.pow_succ]
    omega

/-- The word at an address. -/
def Sp.word (σ : Sp) (p : Nat) : Nat := wordN σ.mem (p - σ.base) 8

theorem or_step {v b k : Nat} (hv : v < 256 ^ k) (hb : b < 256) (hk : k < 8) :
    wU (((BitVec.ofInt 64 (v : Int) ||| BitVec.ofInt 64 (wU (wU (b : Int) * 2 ^ min (wI (8 * (k : Int))).toNat 64))).toNat : Nat) : Int) = ((v + b * 256 ^ k : Nat) : Int) := by
  have h256 : (256 : Nat) ^ k = 2 ^ (8 * k) := by rw [Nat.pow_mul]
  have hle : (256 : Nat) ^ k ≤ 256 ^ 7 := Nat.pow_le_pow_right (by omega) (by omega)
  have hbk : b * 256 ^ k ≤ 255 * 256 ^ k := Nat.mul_le_mul_right _ (by omega)
  have e1 : wI (8 * (k : Int)) = ((8 * k : Nat) : Int) := by rw [wI_of (by omega) (by omega)]; simp
  have e2 : wU (wU (b : Int) * 2 ^ min (wI (8 * (k : Int))).toNat 64) = ((b * 256 ^ k : Nat) : Int) := by
    rw [e1, Int.toNat_natCast, Nat.min_eq_left (by omega), wU_nat (by omega), show ((2 : Int) ^ (8 * k)) = ((256 ^ k : Nat) : Int) by rw [h256]; simp, ← Int.natCast_mul, wU_nat (by omega)]
  rw [e2, BitVec.toNat_or, BitVec.toNat_ofInt, BitVec.toNat_ofInt]
  have e3 : ((v : Int) % ((2 ^ 64 : Nat) : Int)).toNat = v := by omega
  have e4 : (((b * 256 ^ k : Nat) : Int) % ((2 ^ 64 : Nat) : Int)).toNat = b * 256 ^ k := by omega
  rw [e3, e4, wU_nat]
  · have := Nat.two_pow_add_eq_or_of_lt (i := 8 * k) (b := v) (by omega) b
    rw [← h256] at this
    rw [Nat.or_comm, Nat.mul_comm b, ← this, Nat.add_comm]
  · have := Nat.two_pow_add_eq_or_of_lt (i := 8 * k) (b := v) (by omega) b
    rw [← h256] at this
    rw [Nat.or_comm, Nat.mul_comm b, ← this, Nat.mul_comm]
    omega

theorem word_ct {s : Nat} {σ : Sp} {K : Tup [sU, sI] → World → Prop} {KP : List PanicEntry → World → Prop} {x : Int} (p : Nat) (k : Take l (isSpace s σ) r) (hx : x = p) (hp64 : p < 18446744073709551616)
    (h1 : σ.has p 8 → ent e l (K ((σ.word p : Int), 0, ()))) (h2 : ¬ σ.has p 8 → ent e l (K (0, 4, ()))) :
    ent e l ((wpM PR).call 142 [vP s, vU x] [sU, sI] K KP) := by
  subst hx
  refine ent_callD (C := 86) (G := 146) (fn := Go.Proofs.Try.f142) (gn := Go.Proofs.Try.f146) (by kernel_rfl)
    ⟨_, _, _, _, _, _, rfl⟩ (by kernel_rfl) ⟨⟨_, _, _, _, _, _, _, rfl⟩, rfl, rfl⟩ (by kernel_rfl) (by kernel_rfl) (by kernel_rfl) ?_
  rw [nf142_eq]
  refine ent_space_ok k fun hok => ?_
  refine ent_new fun q => ?_
  refine look_ct p 8 (.there k) rfl rfl (by omega) (fun h => ?_) (fun h => ?_)
  · refine ent_new fun b => ?_
    refine ent_guard (by omega) ?_
    refine get_ct p (.there (.there k)) (.here) rfl h hp64 (Nat.le_refl 8) (by simp) ?_
    rw [show spliced [v8 0, v8 0, v8 0, v8 0, v8 0, v8 0, v8 0, v8 0] 0 (σ.bytes p 8) = σ.bytes p 8 by simp [spliced, Sp.bytes_length]]
    refine ent_loop (S := Nat) (fun j => ((wordN σ.mem (p - σ.base) j : Int), (j : Int), ())) (fun _ => isSpace s σ :: blk b _ (σ.bytes p 8) :: blk q _ [vI 0] :: r) (fun j => j ≤ 8) (fun j => 8 - j) 0 rfl (show 0 ≤ 8 by omega) (fun _ y => y) ?_
    intro kk j hj hk
    refine ent_cond (fun c => ?_) (fun c => ?_)
    · have hj8 : j < 8 := by have c : (j : Int) < 8 := of_decide_eq_true c; omega
      refine ent_guard (show (0 : Int) ≤ (j : Int) ∧ (j : Int) < ((8 : Nat) : Int) by omega) ?_
      simp only [Int.toNat_natCast, add_mk, Nat.zero_add, Nat.mul_one]
      refine ent_load1 (σ.mem (p - σ.base + j) : Int) (.there .here) (by simp [Sp.bytes, hj8]; rfl) ?_
      refine ent_guard (show (0 : Int) ≤ wI (8 * (j : Int)) by rw [wI_of (by omega) (by omega)]; omega) ?_
      rw [or_step (wordN_lt hok.mem j) (hok.mem _) hj8, show wI ((j : Int) + 1) = ((j + 1 : Nat) : Int) by rw [wI_of (by omega) (by omega)]; simp]
      exact hk (j + 1) (by omega) (by omega)
    · have hj8 : j = 8 := by have c : ¬ (j : Int) < 8 := of_decide_eq_false c; omega
      subst hj8
      refine ent_store (.there (.there .here)) (by intro u hu; simp at hu; subst hu; rfl) (by simp) ?_
      refine caught_nil_ct ?_
      refine ent_load1 (0 : Int) .here rfl ?_
      exact ent_sub (Sub.drop (Sub.trans (Sub.cons .here (Sub.drop .refl)) (Sub.untake k))) (h1 h)
  · refine caught_ct .here ?_
    refine ent_load1 (4 : Int) .here rfl ?_
    exact ent_drop (h2 h)

def bytes8 (v : Nat) : List Nat := (List.range 8).map fun i => v / 256 ^ i % 256

theorem bytes8_lt {v : Nat} : ∀ b ∈ bytes8 v, b < 256 := by
  intro b hb
  simp only [bytes8, List.mem_map] at hb
  obtain ⟨i, _, rfl⟩ := hb
  omega

theorem byte_step {v j : Nat} (hj : j < 8) : IntKind.u8.wrap ((v : Int).fdiv (2 ^ min (wI (8 * (j : Int))).toNat 64)) = ((v / 256 ^ j % 256 : Nat) : Int) := by
  have e1 : wI (8 * (j : Int)) = ((8 * j : Nat) : Int) := by rw [wI_of (by omega) (by omega)]; simp
  rw [e1, shr_nat (by omega), show (256 : Nat) ^ j = 2 ^ (8 * j) by rw [Nat.pow_mul]]
  simp [IntKind.wrap, IntKind.signed, IntKind.bits]

theorem set_step {f : Nat → Value} {z : Value} {j : Nat} (hj : j < 8) : ((List.range 8).map fun i => if i < j then f i else z).set j (f j) = (List.range 8).map fun i => if i < j + 1 then f i else z := by
  apply List.ext_getElem?
  intro i
  rw [List.getElem?_set]
  by_cases hi : i < 8
  · by_cases h : j = i
    · subst h; simp [hi]
    · simp only [h, if_false, List.getElem?_map, List.getElem?_range hi, Option.map_some]
      by_cases h2 : i < j
      · simp [h2, show i < j + 1 by omega]
      · simp [h2, show ¬ i < j + 1 by omega]
  · rw [if_neg (by omega), List.getElem?_eq_none (by simp; omega), List.getElem?_eq_none (by simp; omega)]

theorem setWord_ct {s : Nat} {σ : Sp} {K : Tup [sI] → World → Prop} {KP : List PanicEntry → World → Prop} {x y : Int} (p v : Nat) (k : Take l (isSpace s σ) r) (hx : x = p) (hy : y = v) (hp64 : p < 18446744073709551616)
    (h1 : σ.has p 8 → ent e (isSpace s (σ.over p (bytes8 v)) :: r) (K (0, ()))) (h2 : ¬ σ.has p 8 → ent e l (K (4, ()))) :
    ent e l ((wpM PR).call 47 [vP s, vU x, vU y] [sI] K KP) := by
  subst hx hy
  refine ent_callD (C := 86) (G := 100) (fn := Go.Proofs.Try.f47) (gn := Go.Proofs.Try.f100) (by kernel_rfl)
    ⟨_, _, _, _, _, _, rfl⟩ (by kernel_rfl) ⟨⟨_, _, _, _, _, _, _, rfl⟩, rfl, rfl⟩ (by kernel_rfl) (by kernel_rfl) (by kernel_rfl) ?_
  rw [nf47_eq]
  refine ent_new fun q => ?_
  refine look_ct p 8 (.there k) rfl rfl (by omega) (fun h => ?_) (fun h => ?_)
  · refine ent_new fun b => ?_
    refine ent_loop (S := Nat) (fun j => ((j : Int), ())) (fun j => blk b _ ((List.range 8).map fun i => if i < j then v8 ((v / 256 ^ i % 256 : Nat) : Int) else v8 0) :: blk q _ [vI 0] :: l) (fun j => j ≤ 8) (fun j => 8 - j) 0 rfl (show 0 ≤ 8 by omega) (fun _ y => y) ?_
    intro kk j hj hk
    refine ent_cond (fun c => ?_) (fun c => ?_)
    · have hj8 : j < 8 := by have c : (j : Int) < 8 := of_decide_eq_true c; omega
      refine ent_guard (show (0 : Int) ≤ wI (8 * (j : Int)) by rw [wI_of (by omega) (by omega)]; omega) ?_
      refine ent_guard (show (0 : Int) ≤ (j : Int) ∧ (j : Int) < ((8 : Nat) : Int) by omega) ?_
      simp only [Int.toNat_natCast, add_mk, Nat.zero_add, Nat.mul_one]
      rw [byte_step hj8]
      refine ent_store .here (by intro u hu; simp at hu; subst hu; rfl) (by simp; omega) ?_
      show ent e (blk b _ (((List.range 8).map fun i => if i < j then v8 ((v / 256 ^ i % 256 : Nat) : Int) else v8 0).set j (v8 ((v / 256 ^ j % 256 : Nat) : Int))) :: _) _
      rw [set_step (f := fun i => v8 ((v / 256 ^ i % 256 : Nat) : Int)) hj8, show wI ((j : Int) + 1) = ((j + 1 : Nat) : Int) by rw [wI_of (by omega) (by omega)]; simp]
      exact hk (j + 1) (by omega) (by omega)
    · have hj8 : j = 8 := by have c : ¬ (j : Int) < 8 := of_decide_eq_false c; omega
      subst hj8
      refine ent_guard (by omega) ?_
      refine put_ct p (bytes8 v) (.there (.there k)) rfl (by simp [bytes8]) h hp64 (Nat.le_refl 8) bytes8_lt (fun w hw => ?_) ?_
      · refine hw.rowAt .here fun i u hu => ?_
        rw [Nat.zero_add]
        simp only [bytes8, List.map_map] at hu
        rw [← hu]
        congr 1
      · refine ent_store (.there (.there .here)) (by intro u hu; simp at hu; subst hu; rfl) (by simp) ?_
        refine caught_nil_ct ?_
        refine ent_load1 (0 : Int) .here rfl ?_
        exact ent_sub (Sub.drop (Sub.cons .here (Sub.drop .refl))) (h1 h)
  · refine caught_ct .here ?_
    refine ent_load1 (4 : Int) .here rfl ?_
    exact ent_drop (h2 h)

/-! ## Single bytes -/

theorem byteAt_ct {s : Nat} {σ : Sp} {ps : Sl} {gs : List Nat} {K : Tup [sP] → World → Prop} {KP : List PanicEntry → World → Prop} {x : Int} (p : Nat) (hx : x = p) (hok : σ.Ok) (hg : gs.length = σ.n) (hl : ps.len = σ.n)
    (h1 : σ.base ≤ p) (h2 : p < σ.base + σ.size * σ.n)
    (kb : Take l (blk s 159 [vU σ.base, vI σ.limit, vI σ.order, vU σ.size, .slice ps.base ps.len ps.cap]) r) {r' : List HP} (ka : Take l (arr 63 sS ps (partsOf σ.size gs)) r')
    (h : ∀ q g i, gs[q]? = some g → i < σ.size → q * σ.size + i = p - σ.base → ent e l (K (some ⟨g, i, none⟩, ()))) :
    ent e l ((wpM PR).call 88 [vP s, vU x] [sP] K KP) := by
  subst hx
  refine ent_call (fn := Go.Proofs.Try.f88) (by kernel_rfl) ?_
  rw [nf88_eq]
  have he := hok.end_le
  have hsz : 0 < σ.size := Sp.Ok.size_pos
  have hszl := hok.size_le
  have hs0 : (σ.size : Int) ≠ 0 := by omega
  refine ent_load1 (σ.base : Int) kb rfl ?_
  refine ent_draw ?_
  refine ent_load1 ps kb rfl ?_
  refine ent_load1 (σ.size : Int) kb rfl ?_
  rw [wU_sub (by omega) (by omega), tdiv_nat, wU_nat (by have := Nat.div_le_self (p - σ.base) σ.size; omega)]
  have hq : (p - σ.base) / σ.size < σ.n := (Nat.div_lt_iff_lt_mul hsz).2 (by rw [Nat.mul_comm]; omega)
  have hi : (p - σ.base) % σ.size < σ.size := Nat.mod_lt _ hsz
  have hdm := Nat.div_add_mod (p - σ.base) σ.size
  generalize (p - σ.base) / σ.size = q at *
  have hgq : gs[q]? = some (gs[q]'(by omega)) := List.getElem?_eq_getElem _
  generalize gs[q]'(by omega) = g at hgq
  refine ent_guard hs0 (ent_guard (by omega) ?_)
  refine ent_get ⟨some ⟨g, 0, none⟩, σ.size, σ.size⟩ ka (by rw [Int.toNat_natCast]; exact partsOf_get hgq) ?_
  refine ent_load1 (σ.size : Int) kb rfl ?_
  rw [tmod_nat]
  generalize (p - σ.base) % σ.size = i at *
  refine ent_guard hs0 (ent_guard (by simp only; omega) ?_)
  show ent e l (getRes [sP] (.pointer (some ((⟨g, 0, none⟩ : Addr).add (((i : Int).toNat) * 1)))) K)
  rw [Int.toNat_natCast, add_mk, Nat.zero_add, Nat.mul_one]
  exact h q g i hgq hi (by rw [Nat.mul_comm]; omega)

theorem byte_ct {s : Nat} {σ : Sp} {K : Tup [s8, sI] → World → Prop} {KP : List PanicEntry → World → Prop} {x : Int} (p : Nat) (k : Take l (isSpace s σ) r) (hx : x = p)
    (h1 : σ.has p 1 → ent e l (K ((σ.mem (p - σ.base) : Int), 0, ()))) (h2 : ¬ σ.has p 1 → ent e l (K (0, 4, ()))) :
    ent e l ((wpM PR).call 147 [vP s, vU x] [s8, sI] K KP) := by
  subst hx
  refine ent_callD (C := 86) (G := 148) (fn := Go.Proofs.Try.f147) (gn := Go.Proofs.Try.f148) (by kernel_rfl)
    ⟨_, _, _, _, _, _, rfl⟩ (by kernel_rfl) ⟨⟨_, _, _, _, _, _, _, rfl⟩, rfl, rfl⟩ (by kernel_rfl) (by kernel_rfl) (by kernel_rfl) ?_
  rw [nf147_eq]
  refine ent_new fun q => ?_
  refine look_ct p 1 (.there k) rfl rfl (by omega) (fun h => ?_) (fun h => ?_)
  · have hp : σ.base ≤ p ∧ p + 1 ≤ σ.base + σ.size * σ.n := by rcases h with h | h <;> omega
    refine ent_space (.there k) fun ps gs hok hg hl back => ?_
    refine byteAt_ct p rfl hok hg hl hp.1 (by omega) .here (.there .here) fun q' g i hgq hi hidx => ?_
    refine ent_mem_load (.there (.there .here)) hgq hi ?_
    rw [hidx]
    refine ent_store (.there (.there (.there .here))) (by intro u hu; simp at hu; subst hu; rfl) (by simp) ?_
    refine caught_nil_ct ?_
    refine ent_load1 (0 : Int) .here rfl ?_
    exact ent_sub (Sub.drop (Sub.trans (back σ hok rfl rfl rfl rfl r) (Sub.untake k))) (h1 h)
  · refine caught_ct .here ?_
    refine ent_load1 (4 : Int) .here rfl ?_
    exact ent_drop (h2 h)

theorem over_one {mem : Nat → Nat} {p j v : Nat} : Hl.over (Hl.over mem p (List.replicate j v)) (p + j) [v] = Hl.over mem p (List.replicate (j + 1) v) := by
  have := over_append (mem := mem) (p := p) (cs := List.replicate j v) (bs := [v])
  rw [List.length_replicate] at this
  rw [this, List.replicate_succ']

theorem fill_ct {s : Nat} {σ : Sp} {K : Tup [sI] → World → Prop} {KP : List PanicEntry → World → Prop} {x y z : Int} (p n v : Nat) (k : Take l (isSpace s σ) r) (hx : x = p) (hy : y = n) (hz : z = v) (hv : v < 256) (hp : p < 18446744073709551616) (hn : n < 18446744073709551616)
    (h1 : σ.has p n → ent e (isSpace s (σ.over p (List.replicate n v)) :: r) (K (0, ()))) (h2 : ¬ σ.has p n → ent e l (K (4, ()))) :
    ent e l ((wpM PR).call 25 [vP s, vU x, vU y, v8 z] [sI] K KP) := by
  subst hx hy hz
  refine ent_callD (C := 86) (G := 85) (fn := Go.Proofs.Try.f25) (gn := Go.Proofs.Try.f85) (by kernel_rfl)
    ⟨_, _, _, _, _, _, rfl⟩ (by kernel_rfl) ⟨⟨_, _, _, _, _, _, _, rfl⟩, rfl, rfl⟩ (by kernel_rfl) (by kernel_rfl) (by kernel_rfl) ?_
  rw [nf25_eq]
  refine ent_space_ok k fun hok => ?_
  have he := hok.end_le
  refine ent_new fun q => ?_
  refine look_ct p n (.there k) rfl rfl hn (fun h => ?_) (fun h => ?_)
  · refine ent_loop (S := Nat) (fun j => (((p + j : Nat) : Int), ((n - j : Nat) : Int), ())) (fun j => isSpace s (σ.over p (List.replicate j v)) :: blk q 29 [vI 0] :: r) (fun j => j ≤ n) (fun j => n - j) 0 rfl (Nat.zero_le n) ?_ ?_
    · intro hh y
      rw [show σ.over p (List.replicate 0 v) = σ by unfold Sp.over; rw [List.replicate_zero, over_nil]]
      exact star_swap (star_mono (fun _ z => z) (fun _ z => k.stars z) y)
    · intro kk j hj hk
      refine ent_cond (fun c => ?_) (fun c => ?_)
      · have hjn : j < n := by have c : ((n - j : Nat) : Int) > 0 := of_decide_eq_true c; omega
        have hp : σ.base ≤ p ∧ p + n ≤ σ.base + σ.size * σ.n := by rcases h with h | h <;> omega
        refine ent_space .here fun ps gs _ hg hl back => ?_
        refine byteAt_ct (σ := σ) (p + j) rfl hok hg hl (by omega) (by omega) .here (.there .here) fun q' g i hgq hi hidx => ?_
        refine ent_mem_store (.there (.there .here)) hgq hi ?_
        have e1 : Hl.over (σ.over p (List.replicate j v)).mem (q' * σ.size + i) [v] = (σ.over p (List.replicate (j + 1) v)).mem := by
          rw [hidx, show p + j - σ.base = p - σ.base + j by omega]
          exact over_one
        show ent e (mems _ gs σ.size (Hl.over (σ.over p (List.replicate j v)).mem (q' * σ.size + i) [v]) :: _) _
        rw [e1]
        refine ent_sub (Sub.trans (Sub.cons (.there .here) (Sub.cons (.there .here) (Sub.cons .here .refl))) (back (σ.over p (List.replicate (j + 1) v)) (hok.over fun b hb => by rw [List.mem_replicate] at hb; omega) rfl rfl rfl rfl _)) ?_
        rw [show wU (((p + j : Nat) : Int) + 1) = ((p + (j + 1) : Nat) : Int) by rw [wU_of (by omega) (by omega)]; omega, show wU (((n - j : Nat) : Int) - 1) = ((n - (j + 1) : Nat) : Int) by rw [wU_of (by omega) (by omega)]; omega]
        exact hk (j + 1) (by omega) (by omega)
      · have hjn : j = n := by have c : ¬ ((n - j : Nat) : Int) > 0 := of_decide_eq_false c; omega
        subst hjn
        refine ent_store (.there .here) (by intro u hu; simp at hu; subst hu; rfl) (by simp) ?_
        refine caught_nil_ct ?_
        refine ent_load1 (0 : Int) .here rfl ?_
        exact ent_drop (h1 h)
  · refine caught_ct .here ?_
    refine ent_load1 (4 : Int) .here rfl ?_
    exact ent_drop (h2 h)

end Go.Proofs.Ytdmfnlcbfmahhaa
