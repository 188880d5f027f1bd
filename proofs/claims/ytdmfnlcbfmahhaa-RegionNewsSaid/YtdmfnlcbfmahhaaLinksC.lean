/- What the functions of the linked lists do. -/
import Derived.Test.YtdmfnlcbfmahhaaMemD
import Derived.Test.YtdmfnlcbfmahhaaNfLinks
namespace Go.Proofs.Ytdmfnlcbfmahhaa
open Go Hl
set_option maxRecDepth 100000

variable {e : Still} {l r : List HP}

/-- A list's head over a space. -/
def isList (p s h : Nat) : HP := blk p 202 [vP s, vU h]

theorem has_add {σ : Sp} {p : Nat} : σ.has p 16 ↔ σ.has p 8 ∧ σ.has (p + 8) 8 := by
  unfold Sp.has; omega

theorem head_ct {p s h : Nat} {K : Tup [sU] → World → Prop} {KP : List PanicEntry → World → Prop} (k : Take l (isList p s h) r) (hk : ent e l (K ((h : Int), ()))) :
    ent e l ((wpM PR).call 90 [vP p] [sU] K KP) := by
  refine ent_call (fn := Go.Proofs.Try.f90) (by kernel_rfl) ?_
  rw [nf90_eq]
  exact ent_load1 (h : Int) k rfl hk

theorem newList_ct {s : Nat} {x : Int} {K : Tup [sP] → World → Prop} {KP : List PanicEntry → World → Prop} (h : Nat) (hx : x = h) (hk : ∀ p, ent e (isList p s h :: l) (K (some ⟨p, 0, none⟩, ()))) :
    ent e l ((wpM PR).call 121 [vP s, vU x] [sP] K KP) := by
  subst hx
  refine ent_call (fn := Go.Proofs.Try.f121) (by kernel_rfl) ?_
  rw [nf121_eq]
  exact ent_new fun b => hk b

theorem links_ct {p s h : Nat} {σ : Sp} {x : Int} {r' : List HP} {K : Tup [sU, sU, sB] → World → Prop} {KP : List PanicEntry → World → Prop} (a : Nat) (k : Take l (isList p s h) r) (ks : Take l (isSpace s σ) r') (hx : x = a) (ha : a < 18446744073709551616)
    (h1 : σ.has a 16 → ent e l (K ((σ.word a : Int), (σ.word (a + 8) : Int), true, ()))) (h2 : ¬ σ.has a 16 → ∀ u v, ent e l (K (u, v, false, ()))) :
    ent e l ((wpM PR).call 126 [vP p, vU x] [sU, sU, sB] K KP) := by
  subst hx
  refine ent_call (fn := Go.Proofs.Try.f126) (by kernel_rfl) ?_
  rw [nf126_eq]
  refine ent_space_ok ks fun hok => ?_
  have he := hok.end_le
  refine ent_load1 (some ⟨s, 0, none⟩) k rfl ?_
  refine word_ct a ks rfl ha (fun h8 => ?_) (fun h8 => ?_)
  · have hlt : a + 8 ≤ 9223372036854775808 := by rcases h8 with h | h <;> omega
    have e8 : wU ((a : Int) + 8) = ((a + 8 : Nat) : Int) := by rw [wU_of (by omega) (by omega)]; omega
    refine ent_cond (fun c => absurd (show ((0 : Int) != 0) = true from c) (by decide)) (fun _ => ?_)
    refine ent_load1 (some ⟨s, 0, none⟩) k rfl ?_
    refine word_ct (a + 8) ks e8 (by omega) (fun h88 => ?_) (fun h88 => ?_)
    · refine ent_cond (fun c => ?_) (fun c => absurd (show ((0 : Int) == 0) = false from c) (by decide))
      have : decide (wU ((a : Int) + 8) > (a : Int)) = true := by rw [e8]; exact decide_eq_true (by omega)
      rw [this]
      exact h1 (has_add.2 ⟨h8, h88⟩)
    · refine ent_cond (fun c => absurd (show ((4 : Int) == 0) = true from c) (by decide)) (fun c => ?_)
      exact h2 (fun h => h88 (has_add.1 h).2) _ _
  · refine ent_cond (fun _ => ?_) (fun c => absurd (show ((4 : Int) != 0) = false from c) (by decide))
    exact h2 (fun h => h8 (has_add.1 h).1) _ _

/-- A word written where its bytes are. -/
def Sp.set (σ : Sp) (p v : Nat) : Sp := if σ.has p 8 then σ.over p (bytes8 v) else σ

theorem Sp.set_has {σ : Sp} {p v q n : Nat} : (σ.set p v).has q n ↔ σ.has q n := by unfold Sp.set; split <;> exact Iff.rfl

theorem set_ct {s : Nat} {σ : Sp} {K : Tup [sI] → World → Prop} {KP : List PanicEntry → World → Prop} {x y : Int} (p v : Nat) (k : Take l (isSpace s σ) r) (hx : x = p) (hy : y = v) (hp64 : p < 18446744073709551616)
    (h : ∀ c, ent e (isSpace s (σ.set p v) :: r) (K (c, ()))) : ent e l ((wpM PR).call 47 [vP s, vU x, vU y] [sI] K KP) := by
  refine setWord_ct p v k hx hy hp64 (fun h8 => ?_) (fun h8 => ?_)
  · have := h 0
    unfold Sp.set at this
    rw [if_pos h8] at this
    exact this
  · have := h 4
    unfold Sp.set at this
    rw [if_neg h8] at this
    exact ent_sub (Sub.cons k .refl) this

def Sp.push (σ : Sp) (h a : Nat) : Sp × Nat × Nat :=
  if ¬ σ.has a 16 then (σ, h, 4)
  else if h ≠ 0 ∧ (¬ σ.has h 16 ∨ σ.word (h + 8) ≠ 0) then (σ, h, 8)
  else
    let σ2 := (σ.set a h).set (a + 8) 0
    (if h ≠ 0 then σ2.set (h + 8) a else σ2, a, 0)

theorem has_lt {σ : Sp} (ok : σ.Ok) {a n : Nat} (h : σ.has a n) (hn : n ≠ 0) : a + n ≤ 9223372036854775808 := by
  have he := ok.end_le
  unfold Sp.has at h; omega

theorem push_ct {p s h : Nat} {σ : Sp} {x : Int} {r' : List HP} {K : Tup [sI] → World → Prop} {KP : List PanicEntry → World → Prop} (a : Nat) (k : Take l (isList p s h) r) (ks : Take r (isSpace s σ) r') (hx : x = a) (ha : a < 18446744073709551616) (hh : h < 18446744073709551616)
    (hk : ent e (isList p s (σ.push h a).2.1 :: isSpace s (σ.push h a).1 :: r') (K (((σ.push h a).2.2 : Int), ()))) :
    ent e l ((wpM PR).call 128 [vP p, vU x] [sI] K KP) := by
  subst hx
  refine ent_call (fn := Go.Proofs.Try.f128) (by kernel_rfl) ?_
  rw [nf128_eq]
  refine ent_sub (Sub.cons k (Sub.cons ks .refl)) ?_
  refine ent_space_ok (.there .here) fun hok => ?_
  refine links_ct a .here (.there .here) rfl ha (fun h16 => ?_) (fun h16 u v => ?_)
  · refine ent_cond (fun c => Bool.noConfusion c) (fun _ => ?_)
    refine ent_joinP (A := Unit) (fun _ _ => ¬ (h ≠ 0 ∧ (¬ σ.has h 16 ∨ σ.word (h + 8) ≠ 0))) (fun _ => isList p s h :: isSpace s σ :: r') (fun _ x hb => ?_) (fun kk hkk => ?_)
    · unfold Sp.push at hk
      rw [if_neg (by simpa using h16), if_neg hb] at hk
      have ha16 := has_lt hok h16 (by omega)
      have e8 : wU ((a : Int) + 8) = ((a + 8 : Nat) : Int) := by rw [wU_of (by omega) (by omega)]; omega
      refine ent_draw ?_
      refine ent_load1 (some ⟨s, 0, none⟩) .here rfl ?_
      refine ent_load1 (h : Int) .here rfl ?_
      refine set_ct a h (.there .here) rfl rfl ha fun _ => ?_
      refine ent_load1 (some ⟨s, 0, none⟩) (.there .here) rfl ?_
      refine set_ct (a + 8) 0 .here e8 rfl (by omega) fun _ => ?_
      refine ent_joinP (A := Unit) (fun _ _ => True) (fun _ => isSpace s (if h ≠ 0 then ((σ.set a h).set (a + 8) 0).set (h + 8) a else (σ.set a h).set (a + 8) 0) :: isList p s h :: r') (fun _ x _ => ?_) (fun kk hkk => ?_)
      · refine ent_store (.there .here) (by intro u hu; simp at hu; subst hu; rfl) (by simp) ?_
        exact ent_sub (Sub.cons .here (Sub.cons .here .refl)) hk
      · refine ent_load1 (h : Int) (.there .here) rfl ?_
        refine ent_cond (fun c => ?_) (fun c => ?_)
        · have h0 : h ≠ 0 := by have c : ((h : Int) != 0) = true := c; simpa using c
          have hh16 : σ.has h 16 := by
            refine Classical.byContradiction fun hn => hb ⟨h0, .inl hn⟩
          have hlt := has_lt hok hh16 (by omega)
          refine ent_draw ?_
          refine ent_load1 (some ⟨s, 0, none⟩) (.there .here) rfl ?_
          refine ent_load1 (h : Int) (.there .here) rfl ?_
          refine set_ct (h + 8) a .here (by rw [wU_of (by omega) (by omega)]; omega) rfl (by omega) fun _ => ?_
          have := hkk () () trivial
          rw [if_pos h0] at this
          exact this
        · have h0 : h = 0 := by have c : ((h : Int) != 0) = false := c; simpa using c
          have := hkk () () trivial
          rw [if_neg (by omega)] at this
          exact this
    · refine ent_load1 (h : Int) .here rfl ?_
      refine ent_cond (fun c => ?_) (fun c => ?_)
      · have h0 : h ≠ 0 := by have c : ((h : Int) != 0) = true := c; simpa using c
        refine links_ct h .here (.there .here) rfl hh (fun hh16 => ?_) (fun hh16 u v => ?_)
        · refine ent_cond (fun c => Bool.noConfusion c) (fun _ => ?_)
          refine ent_cond (fun c => ?_) (fun c => ?_)
          · have hw : σ.word (h + 8) ≠ 0 := by have c : ((σ.word (h + 8) : Int) != 0) = true := c; simpa using c
            unfold Sp.push at hk
            rw [if_neg (by simpa using h16), if_pos ⟨h0, .inr hw⟩] at hk
            exact hk
          · have hw : σ.word (h + 8) = 0 := by have c : ((σ.word (h + 8) : Int) != 0) = false := c; simpa using c
            exact hkk () _ (by rintro ⟨_, h | h⟩ <;> contradiction)
        · refine ent_cond (fun _ => ?_) (fun c => Bool.noConfusion c)
          unfold Sp.push at hk
          rw [if_neg (by simpa using h16), if_pos ⟨h0, .inl hh16⟩] at hk
          exact hk
      · have h0 : h = 0 := by have c : ((h : Int) != 0) = false := c; simpa using c
        exact hkk () _ (by rintro ⟨h, _⟩; exact h h0)
  · refine ent_cond (fun _ => ?_) (fun c => Bool.noConfusion c)
    unfold Sp.push at hk
    rw [if_pos h16] at hk
    exact hk

theorem word_lt {σ : Sp} (ok : σ.Ok) (p : Nat) : σ.word p < 18446744073709551616 := wordN_lt ok.mem 8

def Sp.sound (σ : Sp) (h p next prev : Nat) : Prop := (prev = 0 ↔ p = h) ∧ (prev ≠ 0 → σ.has prev 16 ∧ σ.word prev = p) ∧ (next ≠ 0 → σ.has next 16 ∧ σ.word (next + 8) = p)

instance (σ : Sp) (h p next prev : Nat) : Decidable (σ.sound h p next prev) := inferInstanceAs (Decidable (_ ∧ _))

theorem sound_ct {q s h : Nat} {σ : Sp} {x y z : Int} {r' : List HP} {K : Tup [sB] → World → Prop} {KP : List PanicEntry → World → Prop} (p next prev : Nat) (k : Take l (isList q s h) r) (ks : Take l (isSpace s σ) r') (hx : x = p) (hy : y = next) (hz : z = prev)
    (h2 : next < 18446744073709551616) (h3 : prev < 18446744073709551616)
    (hk : ent e l (K (decide (σ.sound h p next prev), ()))) :
    ent e l ((wpM PR).call 127 [vP q, vU x, vU y, vU z] [sB] K KP) := by
  subst hx hy hz
  refine ent_call (fn := Go.Proofs.Try.f127) (by kernel_rfl) ?_
  rw [nf127_eq]
  have no : ¬ σ.sound h p next prev → ent e l (K (false, ())) := fun hn => by rw [decide_eq_false hn] at hk; exact hk
  refine ent_load1 (h : Int) k rfl ?_
  have b1 : ((prev : Int) == 0) = decide (prev = 0) := by rw [Bool.eq_iff_iff]; simp
  have b2 : ((p : Int) == (h : Int)) = decide (p = h) := by rw [Bool.eq_iff_iff]; simp; omega
  refine ent_cond (fun c => ?_) (fun c => ?_)
  · have c : (!(((prev : Int) == 0) == ((p : Int) == (h : Int)))) = true := c
    rw [b1, b2] at c
    refine no fun hs => ?_
    have := hs.1
    by_cases h0 : prev = 0 <;> by_cases h1 : p = h <;> simp_all
  · have c : (!(((prev : Int) == 0) == ((p : Int) == (h : Int)))) = false := c
    rw [b1, b2] at c
    have hc : prev = 0 ↔ p = h := by
      by_cases h0 : prev = 0 <;> by_cases h1 : p = h <;> simp_all
    refine ent_joinP (A := Unit) (fun _ _ => prev ≠ 0 → σ.has prev 16 ∧ σ.word prev = p) (fun _ => l) (fun _ x hp => ?_) (fun kk hkk => ?_)
    · refine ent_joinP (A := Unit) (fun _ _ => next ≠ 0 → σ.has next 16 ∧ σ.word (next + 8) = p) (fun _ => l) (fun _ x hn => ?_) (fun kk hkk => ?_)
      · have hs : σ.sound h p next prev := ⟨hc, hp, hn⟩
        rw [decide_eq_true hs] at hk
        exact hk
      · refine ent_cond (fun c => ?_) (fun c => ?_)
        · have h0 : next ≠ 0 := by have c : ((next : Int) != 0) = true := c; simpa using c
          refine links_ct next k ks rfl h2 (fun h16 => ?_) (fun h16 u v => ?_)
          · refine ent_cond (fun c => Bool.noConfusion c) (fun _ => ?_)
            refine ent_cond (fun c => ?_) (fun c => ?_)
            · have c : ((σ.word (next + 8) : Int) != (p : Int)) = true := c
              refine no fun hs => ?_
              have := (hs.2.2 h0).2
              simp [this] at c
            · have c : ((σ.word (next + 8) : Int) != (p : Int)) = false := c
              refine hkk () _ fun _ => ⟨h16, ?_⟩
              have c : (σ.word (next + 8) : Int) = (p : Int) := by simpa using c
              omega
          · refine ent_cond (fun _ => ?_) (fun c => Bool.noConfusion c)
            exact no fun hs => h16 (hs.2.2 h0).1
        · have h0 : next = 0 := by have c : ((next : Int) != 0) = false := c; simpa using c
          exact hkk () _ fun h => absurd h0 h
    · refine ent_cond (fun c => ?_) (fun c => ?_)
      · have h0 : prev ≠ 0 := by have c : ((prev : Int) != 0) = true := c; simpa using c
        refine links_ct prev k ks rfl h3 (fun h16 => ?_) (fun h16 u v => ?_)
        · refine ent_cond (fun c => Bool.noConfusion c) (fun _ => ?_)
          refine ent_cond (fun c => ?_) (fun c => ?_)
          · have c : ((σ.word prev : Int) != (p : Int)) = true := c
            refine no fun hs => ?_
            have := (hs.2.1 h0).2
            simp [this] at c
          · have c : ((σ.word prev : Int) != (p : Int)) = false := c
            refine hkk () _ fun _ => ⟨h16, ?_⟩
            have c : (σ.word prev : Int) = (p : Int) := by simpa using c
            omega
        · refine ent_cond (fun _ => ?_) (fun c => Bool.noConfusion c)
          exact no fun hs => h16 (hs.2.1 h0).1
      · have h0 : prev = 0 := by have c : ((prev : Int) != 0) = false := c; simpa using c
        exact hkk () _ fun h => absurd h0 h

def Sp.remove (σ : Sp) (h p : Nat) : Sp × Nat × Nat :=
  if ¬ σ.has p 16 then (σ, h, 4)
  else if ¬ σ.sound h p (σ.word p) (σ.word (p + 8)) then (σ, h, 8)
  else
    let σ1 := if σ.word (p + 8) = 0 then σ else σ.set (σ.word (p + 8)) (σ.word p)
    (if σ.word p ≠ 0 then σ1.set (σ.word p + 8) (σ.word (p + 8)) else σ1, if σ.word (p + 8) = 0 then σ.word p else h, 0)

theorem remove_ct {q s h : Nat} {σ : Sp} {x : Int} {r' : List HP} {K : Tup [sI] → World → Prop} {KP : List PanicEntry → World → Prop} (p : Nat) (k : Take l (isList q s h) r) (ks : Take r (isSpace s σ) r') (hx : x = p) (hp : p < 18446744073709551616)
    (hk : ent e (isList q s (σ.remove h p).2.1 :: isSpace s (σ.remove h p).1 :: r') (K (((σ.remove h p).2.2 : Int), ()))) :
    ent e l ((wpM PR).call 96 [vP q, vU x] [sI] K KP) := by
  subst hx
  refine ent_call (fn := Go.Proofs.Try.f96) (by kernel_rfl) ?_
  rw [nf96_eq]
  refine ent_sub (Sub.cons k (Sub.cons ks .refl)) ?_
  refine ent_space_ok (.there .here) fun hok => ?_
  refine links_ct p .here (.there .here) rfl hp (fun h16 => ?_) (fun h16 u v => ?_)
  · refine ent_cond (fun c => Bool.noConfusion c) (fun _ => ?_)
    have hn := word_lt hok p
    have hv := word_lt hok (p + 8)
    refine sound_ct p (σ.word p) (σ.word (p + 8)) .here (.there .here) rfl rfl rfl hn hv ?_
    refine ent_cond (fun c => ?_) (fun c => ?_)
    · have hs : ¬ σ.sound h p (σ.word p) (σ.word (p + 8)) := by simpa using c
      unfold Sp.remove at hk
      rw [if_neg (by simpa using h16), if_pos hs] at hk
      exact hk
    · have hs : σ.sound h p (σ.word p) (σ.word (p + 8)) := by simpa using c
      unfold Sp.remove at hk
      rw [if_neg (by simpa using h16), if_neg (by simpa using hs)] at hk
      refine ent_joinP (A := Unit) (fun _ _ => True) (fun _ => isList q s (if σ.word (p + 8) = 0 then σ.word p else h) :: isSpace s (if σ.word (p + 8) = 0 then σ else σ.set (σ.word (p + 8)) (σ.word p)) :: r') (fun _ x _ => ?_) (fun kk hkk => ?_)
      · refine ent_joinP (A := Unit) (fun _ _ => True) (fun _ => isList q s (if σ.word (p + 8) = 0 then σ.word p else h) ::
          isSpace s (if σ.word p ≠ 0 then (if σ.word (p + 8) = 0 then σ else σ.set (σ.word (p + 8)) (σ.word p)).set (σ.word p + 8) (σ.word (p + 8)) else (if σ.word (p + 8) = 0 then σ else σ.set (σ.word (p + 8)) (σ.word p))) :: r')
          (fun _ x _ => hk) (fun kk hkk => ?_)
        refine ent_cond (fun c => ?_) (fun c => ?_)
        · have h0 : σ.word p ≠ 0 := by have c : ((σ.word p : Int) != 0) = true := c; simpa using c
          have hlt := has_lt hok (hs.2.2 h0).1 (by omega)
          refine ent_load1 (some ⟨s, 0, none⟩) .here rfl ?_
          refine set_ct (σ.word p + 8) (σ.word (p + 8)) (.there .here) (by rw [wU_of (by omega) (by omega)]; omega) rfl (by omega) fun _ => ?_
          have := hkk () () trivial
          rw [if_pos h0] at this
          exact ent_sub (Sub.cons (.there .here) (Sub.cons .here .refl)) this
        · have h0 : σ.word p = 0 := by have c : ((σ.word p : Int) != 0) = false := c; simpa using c
          have := hkk () () trivial
          rw [if_neg (show ¬ (σ.word p ≠ 0) from fun hn => hn h0)] at this
          exact this
      · refine ent_cond (fun c => ?_) (fun c => ?_)
        · have h0 : σ.word (p + 8) = 0 := by have c : ((σ.word (p + 8) : Int) == 0) = true := c; simpa using c
          refine ent_store .here (by intro u hu; simp at hu; subst hu; rfl) (by simp) ?_
          have := hkk () () trivial
          rw [if_pos h0, if_pos h0] at this
          exact this
        · have h0 : σ.word (p + 8) ≠ 0 := by have c : ((σ.word (p + 8) : Int) == 0) = false := c; simpa using c
          refine ent_load1 (some ⟨s, 0, none⟩) .here rfl ?_
          refine set_ct (σ.word (p + 8)) (σ.word p) (.there .here) rfl rfl hv fun _ => ?_
          have := hkk () () trivial
          rw [if_neg h0, if_neg h0] at this
          exact ent_sub (Sub.cons (.there .here) (Sub.cons .here .refl)) this
  · refine ent_cond (fun _ => ?_) (fun c => Bool.noConfusion c)
    unfold Sp.remove at hk
    rw [if_pos h16] at hk
    exact hk

def Sp.pop (σ : Sp) (h : Nat) : Sp × Nat × Nat × Nat :=
  if h = 0 then (σ, h, 0, 9) else ((σ.remove h h).1, (σ.remove h h).2.1, if (σ.remove h h).2.2 ≠ 0 then 0 else h, (σ.remove h h).2.2)

theorem pop_ct {q s h : Nat} {σ : Sp} {r' : List HP} {K : Tup [sU, sI] → World → Prop} {KP : List PanicEntry → World → Prop} (k : Take l (isList q s h) r) (ks : Take r (isSpace s σ) r') (hh : h < 18446744073709551616)
    (hk : ent e (isList q s (σ.pop h).2.1 :: isSpace s (σ.pop h).1 :: r') (K (((σ.pop h).2.2.1 : Int), ((σ.pop h).2.2.2 : Int), ()))) :
    ent e l ((wpM PR).call 91 [vP q] [sU, sI] K KP) := by
  refine ent_call (fn := Go.Proofs.Try.f91) (by kernel_rfl) ?_
  rw [nf91_eq]
  refine ent_load1 (h : Int) k rfl ?_
  refine ent_cond (fun c => ?_) (fun c => ?_)
  · have h0 : h = 0 := by have c : ((h : Int) == 0) = true := c; simpa using c
    unfold Sp.pop at hk
    rw [if_pos h0] at hk
    exact ent_sub (Sub.cons k (Sub.cons ks .refl)) hk
  · have h0 : h ≠ 0 := by have c : ((h : Int) == 0) = false := c; simpa using c
    unfold Sp.pop at hk
    rw [if_neg h0] at hk
    refine remove_ct h k ks rfl hh ?_
    refine ent_cond (fun c => ?_) (fun c => ?_)
    · have h1 : (σ.remove h h).2.2 ≠ 0 := by have c : (((σ.remove h h).2.2 : Int) != 0) = true := c; simpa using c
      simp only [if_pos h1] at hk
      exact hk
    · have h1 : (σ.remove h h).2.2 = 0 := by have c : (((σ.remove h h).2.2 : Int) != 0) = false := c; simpa using c
      simp only [h1] at hk
      exact hk

end Go.Proofs.Ytdmfnlcbfmahhaa
