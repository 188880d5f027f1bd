import Derived.Test.YtdmfnlcbfmahhaaHlDefer
import Derived.Test.YtdmfnlcbfmahhaaHlGoto
import Derived.Test.YtdmfnlcbfmahhaaProg
import Derived.KernelRfl
namespace Go.Proofs.Ytdmfnlcbfmahhaa
open Go Hl
set_option maxRecDepth 100000
-- 80 (*croft/buddy.Buddy).address (110 ms)
noncomputable def nf80 {T : Type} (M : Prims T) (a0 : Nat) (a1 : Int) (ret : Value → T) (pan : List PanicEntry → T) : T :=
  M.load sU { block := a0, off := 0 : Addr } fun x1 => ret (vU (wU (x1 + wU (4096 * wU a1))))

theorem nf80_eq {T : Type} (M : Prims T) (a0 : Nat) (a1 : Int) (ret : Value → T) (pan : List PanicEntry → T) :
    funcF M Go.Proofs.Try.prog Go.Proofs.Try.f80 [vP a0, vI a1] ret pan = nf80 M a0 a1 ret pan := by kernel_rfl

-- 92 (*croft/buddy.Buddy).page (1555 ms)
noncomputable def nf92 {T : Type} (M : Prims T) (a0 : Nat) (a1 : Int) (ret : Value → T) (pan : List PanicEntry → T) : T :=
  M.join [sI, sB] (fun x1 => M.load sU { block := a0, off := 0 : Addr } fun x2 => ret (Value.tuple #[vI (wI (wU ((wU (a1 - x2)).tdiv 4096))), vB true])) fun k3 =>
    M.draw
      (M.load sU { block := a0, off := 0 : Addr } fun x4 =>
        bif decide (a1 < x4) then ret (Value.tuple #[vI 0, vB false])
        else
          bif a1.tmod 4096 != 0 then ret (Value.tuple #[vI 0, vB false])
          else
            M.load sU { block := a0, off := 0 : Addr } fun x5 =>
              M.load sP { block := a0, off := 4 : Addr } fun x6 =>
                M.call 39 [Value.pointer x6] [sI]
                  (fun x7 =>
                    M.keep [({ block := a0, off := 0 : Addr }, [vU x5])]
                      (bif decide (wU ((wU (a1 - x5)).tdiv 4096) ≥ wU x7.fst) then ret (Value.tuple #[vI 0, vB false]) else k3 (0, false, ())))
                  fun x8 => pan x8)

theorem nf92_eq {T : Type} (M : Prims T) (a0 : Nat) (a1 : Int) (ret : Value → T) (pan : List PanicEntry → T) :
    funcF M Go.Proofs.Try.prog Go.Proofs.Try.f92 [vP a0, vU a1] ret pan = nf92 M a0 a1 ret pan := by kernel_rfl

-- 97 (*croft/buddy.Buddy).enter (665 ms)
noncomputable def nf97 {T : Type} (M : Prims T) (a0 : Nat) (a1 : Int) (a2 : Int) (ret : Value → T) (pan : List PanicEntry → T) : T :=
  M.load sP { block := a0, off := 4 : Addr } fun x1 =>
    M.call 48 [Value.pointer x1, vI a1, vI a2, vI 0] [sI]
      (fun x2 =>
        M.draw
          (M.load sS { block := a0, off := 5 : Addr } fun x3 =>
            M.guard (0 ≤ a2 ∧ a2 < (↑x3.len : Int))
              (dr M.fail x3.base fun x4 =>
                M.load sP (x4.add (a2.toNat * 1)) fun x5 =>
                  M.call 80 [vP a0, vI a1] [sU]
                    (fun x6 =>
                      M.keep [(x4.add (a2.toNat * 1), [Value.pointer x5]), ({ block := a0, off := 5 : Addr }, [Value.slice x3.base x3.len x3.cap])]
                        (M.call 128 [Value.pointer x5, vU x6.fst] [sI] (fun x7 => ret (Value.tuple #[])) fun x8 => pan x8))
                    fun x9 => pan x9)))
      fun x10 => pan x10

theorem nf97_eq {T : Type} (M : Prims T) (a0 : Nat) (a1 : Int) (a2 : Int) (ret : Value → T) (pan : List PanicEntry → T) :
    funcF M Go.Proofs.Try.prog Go.Proofs.Try.f97 [vP a0, vI a1, vI a2] ret pan = nf97 M a0 a1 a2 ret pan := by kernel_rfl

-- 93 (*croft/buddy.Buddy).turn (282 ms)
noncomputable def nf93 {T : Type} (M : Prims T) (a0 : Nat) (a1 : Int) (a2 : Int) (ret : Value → T) (pan : List PanicEntry → T) : T :=
  M.load sI { block := a0, off := 2 : Addr } fun x1 =>
    bif a2 == x1 then ret (vB true)
    else M.load sP { block := a0, off := 4 : Addr } fun x2 => M.call 49 [Value.pointer x2, vI a2, vI a1] [sB, sI] (fun x3 => ret (vB x3.fst)) fun x4 => pan x4

theorem nf93_eq {T : Type} (M : Prims T) (a0 : Nat) (a1 : Int) (a2 : Int) (ret : Value → T) (pan : List PanicEntry → T) :
    funcF M Go.Proofs.Try.prog Go.Proofs.Try.f93 [vP a0, vI a1, vI a2] ret pan = nf93 M a0 a1 a2 ret pan := by kernel_rfl

-- 94 (*croft/buddy.Buddy).cut (368 ms)
noncomputable def nf94 {T : Type} (M : Prims T) (a0 : Nat) (a1 : Int) (a2 : Int) (a3 : Int) (ret : Value → T) (pan : List PanicEntry → T) : T :=
  M.loop [sI] (wI (a2 - 1), ()) fun k1 x2 =>
    bif decide (x2.fst ≥ a3) then
      M.guard (0 ≤ x2.fst)
        (M.call 97 [vP a0, vI (wI (a1 + wI (1 * 2 ^ min x2.fst.toNat 64))), vI x2.fst] []
          (fun x3 =>
            M.guard (0 ≤ x2.fst) (M.call 93 [vP a0, vI (wI (a1 + wI (1 * 2 ^ min x2.fst.toNat 64))), vI x2.fst] [sB] (fun x4 => k1 (wI (x2.fst - 1), ())) fun x5 => pan x5))
          fun x6 => pan x6)
    else M.load sP { block := a0, off := 4 : Addr } fun x7 => M.call 48 [Value.pointer x7, vI a1, vI a3, vI 2] [sI] (fun x8 => ret (Value.tuple #[])) fun x9 => pan x9

theorem nf94_eq {T : Type} (M : Prims T) (a0 : Nat) (a1 : Int) (a2 : Int) (a3 : Int) (ret : Value → T) (pan : List PanicEntry → T) :
    funcF M Go.Proofs.Try.prog Go.Proofs.Try.f94 [vP a0, vI a1, vI a2, vI a3] ret pan = nf94 M a0 a1 a2 a3 ret pan := by kernel_rfl

-- 95 (*croft/buddy.Buddy).live (601 ms)
noncomputable def nf95 {T : Type} (M : Prims T) (a0 : Nat) (a1 : Int) (a2 : Int) (ret : Value → T) (pan : List PanicEntry → T) : T :=
  M.call 92 [vP a0, vU a1] [sI, sB]
    (fun x1 =>
      bif !x1.snd.fst then ret (Value.tuple #[vI 0, vB false])
      else
        M.load sP { block := a0, off := 4 : Addr } fun x2 =>
          M.call 99 [Value.pointer x2, vI x1.fst] [Shp.agg [kI, kI, kI, kI, kI, kI, kI, kU, kU, kU, kU], sB]
            (fun x3 =>
              M.new 57 [vI 0, vI 0, vI 0, vI 0, vI 0, vI 0, vI 0, vU 0, vU 0, vU 0, vU 0] fun x4 =>
                M.store { block := x4, off := 0 : Addr }
                  [vI x3.fst.fst, vI x3.fst.snd.fst, vI x3.fst.snd.snd.fst, vI x3.fst.snd.snd.snd.fst, vI x3.fst.snd.snd.snd.snd.fst, vI x3.fst.snd.snd.snd.snd.snd.fst,
                    vI x3.fst.snd.snd.snd.snd.snd.snd.fst, vU x3.fst.snd.snd.snd.snd.snd.snd.snd.fst, vU x3.fst.snd.snd.snd.snd.snd.snd.snd.snd.fst,
                    vU x3.fst.snd.snd.snd.snd.snd.snd.snd.snd.snd.fst, vU x3.fst.snd.snd.snd.snd.snd.snd.snd.snd.snd.snd.fst]
                  (M.draw
                    (M.load sI { block := x4, off := 0 : Addr } fun x5 =>
                      bif x5 == 2 then M.load sI { block := x4, off := 1 : Addr } fun x6 => ret (Value.tuple #[vI x1.fst, vB (x6 == a2)])
                      else ret (Value.tuple #[vI x1.fst, vB false]))))
            fun x7 => pan x7)
    fun x8 => pan x8

theorem nf95_eq {T : Type} (M : Prims T) (a0 : Nat) (a1 : Int) (a2 : Int) (ret : Value → T) (pan : List PanicEntry → T) :
    funcF M Go.Proofs.Try.prog Go.Proofs.Try.f95 [vP a0, vU a1, vI a2] ret pan = nf95 M a0 a1 a2 ret pan := by kernel_rfl

-- 45 (*croft/buddy.Buddy).Shrink (205 ms)
noncomputable def nf45 {T : Type} (M : Prims T) (a0 : Nat) (a1 : Int) (a2 : Int) (a3 : Int) (ret : Value → T) (pan : List PanicEntry → T) : T :=
  M.call 95 [vP a0, vU a1, vI a2] [sI, sB]
    (fun x1 =>
      M.join [sI] (fun x2 => M.call 94 [vP a0, vI x1.fst, vI a2, vI a3] [] (fun x3 => ret (vI 0)) fun x4 => pan x4) fun k5 =>
        bif decide (a3 < 0) then ret (vI 1) else bif decide (a3 > a2) then ret (vI 1) else bif !x1.snd.fst then ret (vI 1) else k5 (0, ()))
    fun x6 => pan x6

theorem nf45_eq {T : Type} (M : Prims T) (a0 : Nat) (a1 : Int) (a2 : Int) (a3 : Int) (ret : Value → T) (pan : List PanicEntry → T) :
    funcF M Go.Proofs.Try.prog Go.Proofs.Try.f45 [vP a0, vU a1, vI a2, vI a3] ret pan = nf45 M a0 a1 a2 a3 ret pan := by kernel_rfl

-- 79 (*croft/buddy.Buddy).top (1227 ms)
noncomputable def nf79 {T : Type} (M : Prims T) (a0 : Nat) (ret : Value → T) (pan : List PanicEntry → T) : T :=
  M.draw
    (M.load sP { block := a0, off := 3 : Addr } fun x1 =>
      M.load sI { block := a0, off := 2 : Addr } fun x2 =>
        M.call 37 [Value.pointer x1] [sI]
          (fun x3 =>
            M.keep [({ block := a0, off := 2 : Addr }, [vI x2])]
              (M.guard (0 ≤ x2)
                (M.draw
                  (M.load sI { block := a0, off := 2 : Addr } fun x4 =>
                    M.guard (0 ≤ x4)
                      (bif decide (wI (x3.fst * 2 ^ min x2.toNat 64) > 0) then
                        M.load sP { block := a0, off := 4 : Addr } fun x5 =>
                          M.call 39 [Value.pointer x5] [sI]
                            (fun x6 =>
                              M.keep [({ block := a0, off := 2 : Addr }, [vI x4])]
                                (ret
                                  (Value.tuple
                                    #[vI (wI (wI (x3.fst * 2 ^ min x2.toNat 64) - wI (1 * 2 ^ min x4.toNat 64))), vB (x6.fst == wI (x3.fst * 2 ^ min x2.toNat 64))])))
                            fun x7 => pan x7
                      else ret (Value.tuple #[vI (wI (wI (x3.fst * 2 ^ min x2.toNat 64) - wI (1 * 2 ^ min x4.toNat 64))), vB false]))))))
          fun x8 => pan x8)

theorem nf79_eq {T : Type} (M : Prims T) (a0 : Nat) (ret : Value → T) (pan : List PanicEntry → T) :
    funcF M Go.Proofs.Try.prog Go.Proofs.Try.f79 [vP a0] ret pan = nf79 M a0 ret pan := by kernel_rfl

-- 23 (*croft/buddy.Buddy).Feed (504 ms)
noncomputable def nf23 {T : Type} (M : Prims T) (a0 : Nat) (ret : Value → T) (pan : List PanicEntry → T) : T :=
  M.call 79 [vP a0] [sI, sB]
    (fun x1 =>
      bif !x1.snd.fst then ret (vI 9)
      else
        M.draw
          (M.load sI { block := a0, off := 2 : Addr } fun x2 =>
            M.call 80 [vP a0, vI x1.fst] [sU]
              (fun x3 =>
                M.keep [({ block := a0, off := 2 : Addr }, [vI x2])]
                  (M.call 42 [vP a0, vU x3.fst, vI x2] [sI] (fun x4 => bif x4.fst == 1 then ret (vI 9) else ret (vI x4.fst)) fun x5 => pan x5))
              fun x6 => pan x6))
    fun x7 => pan x7

theorem nf23_eq {T : Type} (M : Prims T) (a0 : Nat) (ret : Value → T) (pan : List PanicEntry → T) :
    funcF M Go.Proofs.Try.prog Go.Proofs.Try.f23 [vP a0] ret pan = nf23 M a0 ret pan := by kernel_rfl

-- 46 (*croft/buddy.Buddy).Pull (2036 ms)
noncomputable def nf46 {T : Type} (M : Prims T) (a0 : Nat) (ret : Value → T) (pan : List PanicEntry → T) : T :=
  M.call 79 [vP a0] [sI, sB]
    (fun x1 =>
      bif !x1.snd.fst then ret (vI 9)
      else
        M.join [sI]
          (fun x2 =>
            M.draw
              (M.load sS { block := a0, off := 5 : Addr } fun x3 =>
                M.load sI { block := a0, off := 2 : Addr } fun x4 =>
                  M.guard (0 ≤ x4 ∧ x4 < (↑x3.len : Int))
                    (dr M.fail x3.base fun x5 =>
                      M.load sP (x5.add (x4.toNat * 1)) fun x6 =>
                        M.call 80 [vP a0, vI x1.fst] [sU]
                          (fun x7 =>
                            M.keep
                              [(x5.add (x4.toNat * 1), [Value.pointer x6]), ({ block := a0, off := 2 : Addr }, [vI x4]),
                                ({ block := a0, off := 5 : Addr }, [Value.slice x3.base x3.len x3.cap])]
                              (M.call 96 [Value.pointer x6, vU x7.fst] [sI]
                                (fun x8 =>
                                  bif x8.fst != 0 then ret (vI x8.fst)
                                  else
                                    M.draw
                                      (M.load sP { block := a0, off := 4 : Addr } fun x9 =>
                                        M.load sI { block := a0, off := 2 : Addr } fun x10 =>
                                          M.call 48 [Value.pointer x9, vI x1.fst, vI x10, vI 2] [sI] (fun x11 => ret (vI 0)) fun x12 => pan x12))
                                fun x13 => pan x13))
                          fun x14 => pan x14)))
          fun k15 =>
          M.load sP { block := a0, off := 4 : Addr } fun x16 =>
            M.call 99 [Value.pointer x16, vI x1.fst] [Shp.agg [kI, kI, kI, kI, kI, kI, kI, kU, kU, kU, kU], sB]
              (fun x17 =>
                M.new 57 [vI 0, vI 0, vI 0, vI 0, vI 0, vI 0, vI 0, vU 0, vU 0, vU 0, vU 0] fun x18 =>
                  M.store { block := x18, off := 0 : Addr }
                    [vI x17.fst.fst, vI x17.fst.snd.fst, vI x17.fst.snd.snd.fst, vI x17.fst.snd.snd.snd.fst, vI x17.fst.snd.snd.snd.snd.fst,
                      vI x17.fst.snd.snd.snd.snd.snd.fst, vI x17.fst.snd.snd.snd.snd.snd.snd.fst, vU x17.fst.snd.snd.snd.snd.snd.snd.snd.fst,
                      vU x17.fst.snd.snd.snd.snd.snd.snd.snd.snd.fst, vU x17.fst.snd.snd.snd.snd.snd.snd.snd.snd.snd.fst,
                      vU x17.fst.snd.snd.snd.snd.snd.snd.snd.snd.snd.snd.fst]
                    (M.draw
                      (M.load sI { block := x18, off := 0 : Addr } fun x19 =>
                        bif x19 != 0 then ret (vI 9)
                        else
                          M.load sI { block := x18, off := 1 : Addr } fun x20 =>
                            M.load sI { block := a0, off := 2 : Addr } fun x21 => bif x20 != x21 then ret (vI 9) else k15 (0, ()))))
              fun x22 => pan x22)
    fun x23 => pan x23

theorem nf46_eq {T : Type} (M : Prims T) (a0 : Nat) (ret : Value → T) (pan : List PanicEntry → T) :
    funcF M Go.Proofs.Try.prog Go.Proofs.Try.f46 [vP a0] ret pan = nf46 M a0 ret pan := by kernel_rfl

-- 75 croft/buddy.New (308 ms)
noncomputable def nf75 {T : Type} (M : Prims T) (a0_0 : Int) (a0_1 : Int) (a0_2 : Int) (a1 : Nat) (a2 : Nat) (ret : Value → T) (pan : List PanicEntry → T) : T :=
  M.new 24 [vU a0_0, vI a0_1, vI a0_2] fun x1 =>
    M.draw
      (M.load (Shp.agg [kU, kI, kI]) { block := x1, off := 0 : Addr } fun x2 =>
        M.load sI { block := x1, off := 2 : Addr } fun x3 =>
          M.sem (Instr.makeSlice 59 (vI (if wI (x3 + 1) > 0 then wI (x3 + 1) else 0)) (vI (if wI (x3 + 1) > 0 then wI (x3 + 1) else 0))) sS fun x4 =>
            M.keep [({ block := x1, off := 0 : Addr }, [vU x2.fst, vI x2.snd.fst, vI x2.snd.snd.fst])]
              (M.call 77 [Value.agg #[vU x2.fst, vI x2.snd.fst, vI x2.snd.snd.fst], vP a1, vP a2, Value.slice x4.base x4.len x4.cap] [sP, sI]
                (fun x5 => ret (Value.pointer x5.fst)) fun x6 => pan x6))

theorem nf75_eq {T : Type} (M : Prims T) (a0_0 : Int) (a0_1 : Int) (a0_2 : Int) (a1 : Nat) (a2 : Nat) (ret : Value → T) (pan : List PanicEntry → T) :
    funcF M Go.Proofs.Try.prog Go.Proofs.Try.f75 [Value.agg #[vU a0_0, vI a0_1, vI a0_2], vP a1, vP a2] ret pan = nf75 M a0_0 a0_1 a0_2 a1 a2 ret pan := by kernel_rfl

-- 77 croft/buddy.Open (969 ms)
noncomputable def nf77 {T : Type} (M : Prims T) (a0_0 : Int) (a0_1 : Int) (a0_2 : Int) (a1 : Nat) (a2 : Nat) (a3 : Sl) (ret : Value → T) (pan : List PanicEntry → T) : T :=
  M.new 24 [vU a0_0, vI a0_1, vI a0_2] fun x1 =>
    M.load sI { block := x1, off := 2 : Addr } fun x2 =>
      bif (↑a3.len : Int) != wI (x2 + 1) then ret (Value.tuple #[Value.pointer none, vI 7])
      else
        M.load (Shp.agg [kU, kI, kI]) { block := x1, off := 0 : Addr } fun x3 =>
          M.new 146 [vU x3.fst, vI x3.snd.fst, vI x3.snd.snd.fst, vP a1, vP a2, Value.slice none 0 0] fun x4 =>
            M.loop [sI] (0, ()) fun k5 x6 =>
              bif decide (x6.fst < (↑a3.len : Int)) then
                M.guard (0 ≤ x6.fst ∧ x6.fst < (↑a3.len : Int))
                  (dr M.fail a3.base fun x7 =>
                    M.load sU (x7.add (x6.fst.toNat * 1)) fun x8 =>
                      M.draw
                        (M.load sS { block := x4, off := 5 : Addr } fun x9 =>
                          M.call 121 [vP a1, vU x8] [sP]
                            (fun x10 =>
                              M.keep [({ block := x4, off := 5 : Addr }, [Value.slice x9.base x9.len x9.cap])]
                                (M.new 163 [Value.pointer x10.fst] fun x11 =>
                                  M.keep [({ block := x4, off := 5 : Addr }, [Value.slice x9.base x9.len x9.cap])]
                                    (M.sem (Builtin.append_ #[144, 144] 144 #[Value.slice x9.base x9.len x9.cap, Value.slice (some { block := x11, off := 0 : Addr }) 1 1])
                                      sS fun x12 => M.store { block := x4, off := 5 : Addr } [Value.slice x12.base x12.len x12.cap] (k5 (wI (x6.fst + 1), ())))))
                            fun x13 => pan x13))
              else ret (Value.tuple #[vP x4, vI 0])

theorem nf77_eq {T : Type} (M : Prims T) (a0_0 : Int) (a0_1 : Int) (a0_2 : Int) (a1 : Nat) (a2 : Nat) (a3 : Sl) (ret : Value → T) (pan : List PanicEntry → T) :
    funcF M Go.Proofs.Try.prog Go.Proofs.Try.f77 [Value.agg #[vU a0_0, vI a0_1, vI a0_2], vP a1, vP a2, Value.slice a3.base a3.len a3.cap] ret pan = nf77 M a0_0 a0_1 a0_2 a1 a2 a3 ret pan := by kernel_rfl

-- 41 (*croft/buddy.Buddy).Take (1041 ms)
noncomputable def nf41 {T : Type} (M : Prims T) (a0 : Nat) (a1 : Int) (ret : Value → T) (pan : List PanicEntry → T) : T :=
  M.join [sU, sI]
    (fun x1 =>
      M.loop [sU, sI, sI] (x1.fst, x1.snd.fst, a1, ()) fun k2 x3 =>
        M.load sI { block := a0, off := 2 : Addr } fun x4 =>
          bif decide (x3.snd.snd.fst ≤ x4) then
            M.load sS { block := a0, off := 5 : Addr } fun x5 =>
              M.guard (0 ≤ x3.snd.snd.fst ∧ x3.snd.snd.fst < (↑x5.len : Int))
                (dr M.fail x5.base fun x6 =>
                  M.load sP (x6.add (x3.snd.snd.fst.toNat * 1)) fun x7 =>
                    M.call 91 [Value.pointer x7] [sU, sI]
                      (fun x8 =>
                        bif x8.snd.fst == 9 then k2 (x3.fst, x3.snd.fst, wI (x3.snd.snd.fst + 1), ())
                        else
                          M.call 92 [vP a0, vU x8.fst] [sI, sB]
                            (fun x9 =>
                              M.join [sU, sI]
                                (fun x10 =>
                                  M.call 93 [vP a0, vI x9.fst, vI x3.snd.snd.fst] [sB]
                                    (fun x11 =>
                                      M.call 94 [vP a0, vI x9.fst, vI x3.snd.snd.fst, vI a1] [] (fun x12 => ret (Value.tuple #[vU x8.fst, vI 0])) fun x13 => pan x13)
                                    fun x14 => pan x14)
                                fun k15 =>
                                bif x8.snd.fst != 0 then ret (Value.tuple #[vU 0, vI 8])
                                else bif !x9.snd.fst then ret (Value.tuple #[vU 0, vI 8]) else k15 (x3.fst, x3.snd.fst, ()))
                            fun x16 => pan x16)
                      fun x17 => pan x17)
          else ret (Value.tuple #[vU 0, vI 2]))
    fun k18 =>
    bif decide (a1 < 0) then ret (Value.tuple #[vU 0, vI 1])
    else M.load sI { block := a0, off := 2 : Addr } fun x19 => bif decide (a1 > x19) then ret (Value.tuple #[vU 0, vI 1]) else k18 (0, 0, ())

theorem nf41_eq {T : Type} (M : Prims T) (a0 : Nat) (a1 : Int) (ret : Value → T) (pan : List PanicEntry → T) :
    funcF M Go.Proofs.Try.prog Go.Proofs.Try.f41 [vP a0, vI a1] ret pan = nf41 M a0 a1 ret pan := by kernel_rfl

-- (*croft/buddy.Buddy).Give (781 ms)
noncomputable def nf42 {T : Type} (M : Prims T) (a0 : Nat) (a1 : Int) (a2 : Int) (ret : Value → T) (pan : List PanicEntry → T) : T :=
  M.call 95 [vP a0, vU a1, vI a2] [sI, sB]
    (fun x1 =>
      bif !x1.snd.fst then ret (vI 1)
      else
        M.loop [sI, sI, sI] (0, x1.fst, a2, ()) fun k2 x3 =>
          M.call 93 [vP a0, vI x3.snd.fst, vI x3.snd.snd.fst] [sB]
            (fun x4 =>
              bif !x4.fst then
                M.draw
                  (M.load sS { block := a0, off := 5 : Addr } fun x5 =>
                    M.guard (0 ≤ x3.snd.snd.fst ∧ x3.snd.snd.fst < (↑x5.len : Int))
                      (dr M.fail x5.base fun x6 =>
                        M.load sP (x6.add (x3.snd.snd.fst.toNat * 1)) fun x7 =>
                          M.guard (0 ≤ x3.snd.snd.fst)
                            (M.call 80 [vP a0, vI (wI (↑(BitVec.ofInt 64 x3.snd.fst ^^^ BitVec.ofInt 64 (wI (1 * 2 ^ min x3.snd.snd.fst.toNat 64))).toNat : Int))] [sU]
                              (fun x8 =>
                                M.keep [(x6.add (x3.snd.snd.fst.toNat * 1), [Value.pointer x7]), ({ block := a0, off := 5 : Addr }, [Value.slice x5.base x5.len x5.cap])]
                                  (M.call 96 [Value.pointer x7, vU x8.fst] [sI]
                                    (fun x9 =>
                                      bif x9.fst != 0 then ret (vI x9.fst)
                                      else
                                        M.guard (0 ≤ x3.snd.snd.fst)
                                          (k2
                                            (x3.fst, wI (↑(BitVec.ofInt 64 x3.snd.fst &&& ~~~BitVec.ofInt 64 (wI (1 * 2 ^ min x3.snd.snd.fst.toNat 64))).toNat : Int),
                                              wI (x3.snd.snd.fst + 1), ())))
                                    fun x10 => pan x10))
                              fun x11 => pan x11)))
              else M.call 97 [vP a0, vI x3.snd.fst, vI x3.snd.snd.fst] [] (fun x12 => ret (vI 0)) fun x13 => pan x13)
            fun x14 => pan x14)
    fun x15 => pan x15

theorem nf42_eq {T : Type} (M : Prims T) (a0 : Nat) (a1 : Int) (a2 : Int) (ret : Value → T) (pan : List PanicEntry → T) :
    funcG M Go.Proofs.Try.prog Go.Proofs.Try.f42 [vP a0, vU a1, vI a2] ret pan = nf42 M a0 a1 a2 ret pan := by kernel_rfl

-- 40 (*croft/buddy.Buddy).Heads (854 ms)
noncomputable def nf40 {T : Type} (M : Prims T) (a0 : Nat) (ret : Value → T) (pan : List PanicEntry → T) : T :=
  M.load sS { block := a0, off := 5 : Addr } fun x1 =>
    M.sem (Instr.makeSlice 59 (vI 0) (vI (↑x1.len : Int))) sS fun x2 =>
      M.load sS { block := a0, off := 5 : Addr } fun x3 =>
        M.loop [sS, sI] ({ base := x2.base, len := x2.len, cap := x2.cap : Sl }, 0, ()) fun k4 x5 =>
          bif decide (x5.snd.fst < (↑x3.len : Int)) then
            M.guard (0 ≤ x5.snd.fst ∧ x5.snd.fst < (↑x3.len : Int))
              (dr M.fail x3.base fun x6 =>
                M.load sP (x6.add (x5.snd.fst.toNat * 1)) fun x7 =>
                  M.call 90 [Value.pointer x7] [sU]
                    (fun x8 =>
                      M.new 22 [vU x8.fst] fun x9 =>
                        M.sem (Builtin.append_ #[59, 59] 59 #[Value.slice x5.fst.base x5.fst.len x5.fst.cap, Value.slice (some { block := x9, off := 0 : Addr }) 1 1]) sS
                          fun x10 => k4 ({ base := x10.base, len := x10.len, cap := x10.cap : Sl }, wI (x5.snd.fst + 1), ()))
                    fun x11 => pan x11)
          else
            M.guard ((0 : Int) ≤ 0 ∧ 0 ≤ (↑x5.fst.len : Int) ∧ (↑x5.fst.len : Int) ≤ (↑x5.fst.len : Int) ∧ (↑x5.fst.len : Int) ≤ (↑x5.fst.cap : Int))
              (ret
                (Value.slice (if (↑x5.fst.len : Int).toNat = 0 then x5.fst.base else Option.map (fun x => x.add 0) x5.fst.base) ((↑x5.fst.len : Int).toNat - 0)
                  ((↑x5.fst.len : Int).toNat - 0)))

theorem nf40_eq {T : Type} (M : Prims T) (a0 : Nat) (ret : Value → T) (pan : List PanicEntry → T) :
    funcF M Go.Proofs.Try.prog Go.Proofs.Try.f40 [vP a0] ret pan = nf40 M a0 ret pan := by kernel_rfl

end Go.Proofs.Ytdmfnlcbfmahhaa
