import Derived.Test.YtdmfnlcbfmahhaaHlDefer
import Derived.Test.YtdmfnlcbfmahhaaHlGoto
import Derived.Test.YtdmfnlcbfmahhaaProg
import Derived.KernelRfl
namespace Go.Proofs.Ytdmfnlcbfmahhaa
open Go Hl
set_option maxRecDepth 100000
-- 20 croft/croftlaw5.begin (1010 ms)
noncomputable def nf20 {T : Type} (M : Prims T) (a0_0 : Int) (a0_1 : Int) (a0_2 : Int) (ret : Value → T) (pan : List PanicEntry → T) : T :=
  M.new 24 [vU a0_0, vI a0_1, vI a0_2] fun x1 =>
    M.load (Shp.agg [kU, kI, kI]) { block := x1, off := 0 : Addr } fun x2 =>
      M.call 72 [Value.agg #[vU x2.fst, vI x2.snd.fst, vI x2.snd.snd.fst]] [Shp.agg [kU, kI, kI]]
        (fun x3 =>
          M.store { block := x1, off := 0 : Addr } [vU x3.fst.fst, vI x3.fst.snd.fst, vI x3.fst.snd.snd.fst]
            (M.load (Shp.agg [kU, kI, kI]) { block := x1, off := 0 : Addr } fun x4 =>
              M.call 73 [Value.agg #[vU x4.fst, vI x4.snd.fst, vI x4.snd.snd.fst]] [sP, sI]
                (fun x5 =>
                  M.load sI { block := x1, off := 2 : Addr } fun x6 =>
                    M.call 74 [vI x6] [sP]
                      (fun x7 =>
                        M.join [sP]
                          (fun x8 =>
                            M.load (Shp.agg [kU, kI, kI]) { block := x1, off := 0 : Addr } fun x9 =>
                              M.call 75 [Value.agg #[vU x9.fst, vI x9.snd.fst, vI x9.snd.snd.fst], Value.pointer x5.fst, Value.pointer x7.fst] [sP]
                                (fun x10 =>
                                  M.sem (eqV 32 (Value.pointer x10.fst) (Value.pointer none)) sB fun x11 =>
                                    bif x11 then ret (Value.pointer none)
                                    else
                                      M.draw
                                        (M.load (Shp.agg [kU, kI, kI]) { block := x1, off := 0 : Addr } fun x12 =>
                                          M.load sI { block := x1, off := 2 : Addr } fun x13 =>
                                            M.call 76 [vI x13] [Shp.agg [kI, kI, Kind.slice, Kind.slice]]
                                              (fun x14 =>
                                                M.keep [({ block := x1, off := 0 : Addr }, [vU x12.fst, vI x12.snd.fst, vI x12.snd.snd.fst])]
                                                  (M.new 38
                                                    [vU x12.fst, vI x12.snd.fst, vI x12.snd.snd.fst, Value.pointer x5.fst, Value.pointer x7.fst, Value.pointer x10.fst,
                                                      vI x14.fst.fst, vI x14.fst.snd.fst,
                                                      Value.slice x14.fst.snd.snd.fst.base x14.fst.snd.snd.fst.len x14.fst.snd.snd.fst.cap,
                                                      Value.slice x14.fst.snd.snd.snd.fst.base x14.fst.snd.snd.snd.fst.len x14.fst.snd.snd.snd.fst.cap]
                                                    fun x15 => ret (vP x15)))
                                              fun x16 => pan x16))
                                fun x17 => pan x17)
                          fun k18 =>
                          bif x5.snd.fst != 0 then ret (Value.pointer none)
                          else
                            M.sem (eqV 30 (Value.pointer x5.fst) (Value.pointer none)) sB fun x19 =>
                              bif x19 then ret (Value.pointer none)
                              else M.sem (eqV 31 (Value.pointer x7.fst) (Value.pointer none)) sB fun x20 => bif x20 then ret (Value.pointer none) else k18 (none, ()))
                      fun x21 => pan x21)
                fun x22 => pan x22))
        fun x23 => pan x23

theorem nf20_eq {T : Type} (M : Prims T) (a0_0 : Int) (a0_1 : Int) (a0_2 : Int) (ret : Value → T) (pan : List PanicEntry → T) :
    funcF M Go.Proofs.Try.prog Go.Proofs.Try.f20 [Value.agg #[vU a0_0, vI a0_1, vI a0_2]] ret pan = nf20 M a0_0 a0_1 a0_2 ret pan := by kernel_rfl

-- 72 croft/croftlaw5.usual (447 ms)
noncomputable def nf72 {T : Type} (M : Prims T) (a0_0 : Int) (a0_1 : Int) (a0_2 : Int) (ret : Value → T) (pan : List PanicEntry → T) : T :=
  M.new 24 [vU a0_0, vI a0_1, vI a0_2] fun x1 =>
    M.new 24 [vU 0, vI 0, vI 0] fun x2 =>
      M.load (Shp.agg [kU, kI, kI]) { block := x1, off := 0 : Addr } fun x3 =>
        M.call 30 [Value.agg #[vU x3.fst, vI x3.snd.fst, vI x3.snd.snd.fst]] [sB]
          (fun x4 =>
            bif !x4.fst then
              M.store { block := x2, off := 0 : Addr } [vU 65536, vI 2, vI 2]
                (M.load (Shp.agg [kU, kI, kI]) { block := x2, off := 0 : Addr } fun x5 => ret (Value.agg #[vU x5.fst, vI x5.snd.fst, vI x5.snd.snd.fst]))
            else
              M.load (Shp.agg [kU, kI, kI]) { block := x1, off := 0 : Addr } fun x6 =>
                M.store { block := x2, off := 0 : Addr } [vU x6.fst, vI x6.snd.fst, vI x6.snd.snd.fst]
                  (M.load (Shp.agg [kU, kI, kI]) { block := x2, off := 0 : Addr } fun x7 => ret (Value.agg #[vU x7.fst, vI x7.snd.fst, vI x7.snd.snd.fst])))
          fun x8 => pan x8

theorem nf72_eq {T : Type} (M : Prims T) (a0_0 : Int) (a0_1 : Int) (a0_2 : Int) (ret : Value → T) (pan : List PanicEntry → T) :
    funcF M Go.Proofs.Try.prog Go.Proofs.Try.f72 [Value.agg #[vU a0_0, vI a0_1, vI a0_2]] ret pan = nf72 M a0_0 a0_1 a0_2 ret pan := by kernel_rfl

-- 30 croft/croftref2.May (995 ms)
noncomputable def nf30 {T : Type} (M : Prims T) (a0_0 : Int) (a0_1 : Int) (a0_2 : Int) (ret : Value → T) (pan : List PanicEntry → T) : T :=
  M.new 24 [vU a0_0, vI a0_1, vI a0_2] fun x1 =>
    M.join [sB]
      (fun x2 =>
        M.load sI { block := x1, off := 1 : Addr } fun x3 =>
          M.loop [sI, sU, sI] (x3, 4096, 0, ()) fun k4 x5 =>
            M.load sI { block := x1, off := 2 : Addr } fun x6 =>
              bif decide (x5.snd.snd.fst < x6) then k4 (wI (x5.fst * 2), wU (x5.snd.fst * 2), wI (x5.snd.snd.fst + 1), ())
              else
                M.join [sB]
                  (fun x7 =>
                    M.load sI { block := x1, off := 1 : Addr } fun x8 =>
                      M.load sU { block := x1, off := 0 : Addr } fun x9 =>
                        bif decide (x9 ≤ 9223372036854775808) then
                          M.load sU { block := x1, off := 0 : Addr } fun x10 => ret (vB (decide (wU (x10 + wU (x5.snd.fst * wU x8)) ≤ 9223372036854775808)))
                        else ret (vB false))
                  fun k11 =>
                  bif decide (x5.fst > 1024) then ret (vB false)
                  else
                    M.load sU { block := x1, off := 0 : Addr } fun x12 =>
                      bif x12 == 0 then ret (vB false)
                      else
                        M.load sU { block := x1, off := 0 : Addr } fun x13 =>
                          M.guard (x5.snd.fst ≠ 0) (bif x13.tmod x5.snd.fst != 0 then ret (vB false) else k11 (x2.fst, ())))
      fun k14 =>
      M.load sI { block := x1, off := 2 : Addr } fun x15 =>
        bif decide (x15 < 0) then ret (vB false)
        else
          M.load sI { block := x1, off := 2 : Addr } fun x16 =>
            bif decide (x16 > 8) then ret (vB false)
            else
              M.load sI { block := x1, off := 1 : Addr } fun x17 =>
                bif decide (x17 < 1) then ret (vB false)
                else M.load sI { block := x1, off := 1 : Addr } fun x18 => bif decide (x18 > 64) then ret (vB false) else k14 (false, ())

theorem nf30_eq {T : Type} (M : Prims T) (a0_0 : Int) (a0_1 : Int) (a0_2 : Int) (ret : Value → T) (pan : List PanicEntry → T) :
    funcF M Go.Proofs.Try.prog Go.Proofs.Try.f30 [Value.agg #[vU a0_0, vI a0_1, vI a0_2]] ret pan = nf30 M a0_0 a0_1 a0_2 ret pan := by kernel_rfl

-- 43 croft/croftlaw5.ints (469 ms)
noncomputable def nf43 {T : Type} (M : Prims T) (a0 : Sl) (a1 : Sl) (ret : Value → T) (pan : List PanicEntry → T) : T :=
  bif (↑a0.len : Int) != (↑a1.len : Int) then ret (vB false)
  else
    M.loop [sB, sI] (false, 0, ()) fun k1 x2 =>
      bif decide (x2.snd.fst < (↑a0.len : Int)) then
        M.draw
          (M.guard (0 ≤ x2.snd.fst ∧ x2.snd.fst < (↑a0.len : Int))
            (dr M.fail a0.base fun x3 =>
              M.load sU (x3.add (x2.snd.fst.toNat * 1)) fun x4 =>
                M.guard (0 ≤ x2.snd.fst ∧ x2.snd.fst < (↑a1.len : Int))
                  (dr M.fail a1.base fun x5 =>
                    M.load sU (x5.add (x2.snd.fst.toNat * 1)) fun x6 => bif x4 != x6 then ret (vB false) else k1 (x2.fst, wI (x2.snd.fst + 1), ()))))
      else ret (vB true)

theorem nf43_eq {T : Type} (M : Prims T) (a0 : Sl) (a1 : Sl) (ret : Value → T) (pan : List PanicEntry → T) :
    funcF M Go.Proofs.Try.prog Go.Proofs.Try.f43 [Value.slice a0.base a0.len a0.cap, Value.slice a1.base a1.len a1.cap] ret pan = nf43 M a0 a1 ret pan := by kernel_rfl

-- 76 croft/croftref5.New (638 ms)
noncomputable def nf76 {T : Type} (M : Prims T) (a0 : Int) (ret : Value → T) (pan : List PanicEntry → T) : T :=
  M.new 36 [vI 0, vI 0, Value.slice none 0 0, Value.slice none 0 0] fun x1 =>
    M.new 36 [vI 0, vI 0, Value.slice none 0 0, Value.slice none 0 0] fun x2 =>
      M.store { block := x2, off := 0 : Addr } [vI a0, vI 0, Value.slice none 0 0, Value.slice none 0 0]
        (M.loop [sI] (0, ()) fun k3 x4 =>
          bif decide (x4.fst ≤ a0) then
            M.load sS { block := x2, off := 2 : Addr } fun x5 =>
              M.new 129 [Value.slice none 0 0] fun x6 =>
                M.sem (Builtin.append_ #[33, 33] 33 #[Value.slice x5.base x5.len x5.cap, Value.slice (some { block := x6, off := 0 : Addr }) 1 1]) sS fun x7 =>
                  M.store { block := x2, off := 2 : Addr } [Value.slice x7.base x7.len x7.cap] (k3 (wI (x4.fst + 1), ()))
          else
            M.load (Shp.agg [kI, kI, Kind.slice, Kind.slice]) { block := x2, off := 0 : Addr } fun x8 =>
              M.store { block := x1, off := 0 : Addr }
                [vI x8.fst, vI x8.snd.fst, Value.slice x8.snd.snd.fst.base x8.snd.snd.fst.len x8.snd.snd.fst.cap,
                  Value.slice x8.snd.snd.snd.fst.base x8.snd.snd.snd.fst.len x8.snd.snd.snd.fst.cap]
                (M.load (Shp.agg [kI, kI, Kind.slice, Kind.slice]) { block := x1, off := 0 : Addr } fun x9 =>
                  ret
                    (Value.agg
                      #[vI x9.fst, vI x9.snd.fst, Value.slice x9.snd.snd.fst.base x9.snd.snd.fst.len x9.snd.snd.fst.cap,
                        Value.slice x9.snd.snd.snd.fst.base x9.snd.snd.snd.fst.len x9.snd.snd.snd.fst.cap])))

theorem nf76_eq {T : Type} (M : Prims T) (a0 : Int) (ret : Value → T) (pan : List PanicEntry → T) :
    funcF M Go.Proofs.Try.prog Go.Proofs.Try.f76 [vI a0] ret pan = nf76 M a0 ret pan := by kernel_rfl

-- 122 croft/croftref5.lives (734 ms)
noncomputable def nf122 {T : Type} (M : Prims T) (a0_0 : Int) (a0_1 : Int) (a0_2 : Sl) (a0_3 : Sl) (a1 : Int) (a2 : Int) (ret : Value → T) (pan : List PanicEntry → T) : T :=
  M.new 36 [vI a0_0, vI a0_1, Value.slice a0_2.base a0_2.len a0_2.cap, Value.slice a0_3.base a0_3.len a0_3.cap] fun x1 =>
    M.new 36 [vI 0, vI 0, Value.slice none 0 0, Value.slice none 0 0] fun x2 =>
      M.loop [sS, sI] ({ base := none, len := 0, cap := 0 : Sl }, 0, ()) fun k3 x4 =>
        M.load sS { block := x1, off := 3 : Addr } fun x5 =>
          bif decide (x4.snd.fst < (↑x5.len : Int)) then
            M.load sS { block := x1, off := 3 : Addr } fun x6 =>
              M.guard (0 ≤ x4.snd.fst ∧ x4.snd.fst < (↑x6.len : Int))
                (dr M.fail x6.base fun x7 =>
                  M.load (Shp.agg [kI, kI]) (x7.add (x4.snd.fst.toNat * 2)) fun x8 =>
                    M.new 214 [vI x8.fst, vI x8.snd.fst] fun x9 =>
                      M.sem (Builtin.append_ #[34, 34] 34 #[Value.slice x4.fst.base x4.fst.len x4.fst.cap, Value.slice (some { block := x9, off := 0 : Addr }) 1 1]) sS
                        fun x10 => k3 ({ base := x10.base, len := x10.len, cap := x10.cap : Sl }, wI (x4.snd.fst + 1), ()))
          else
            M.new 214 [vI a1, vI a2] fun x11 =>
              M.sem (Builtin.append_ #[34, 34] 34 #[Value.slice x4.fst.base x4.fst.len x4.fst.cap, Value.slice (some { block := x11, off := 0 : Addr }) 1 1]) sS fun x12 =>
                M.store { block := x1, off := 3 : Addr } [Value.slice x12.base x12.len x12.cap]
                  (M.load (Shp.agg [kI, kI, Kind.slice, Kind.slice]) { block := x1, off := 0 : Addr } fun x13 =>
                    M.store { block := x2, off := 0 : Addr }
                      [vI x13.fst, vI x13.snd.fst, Value.slice x13.snd.snd.fst.base x13.snd.snd.fst.len x13.snd.snd.fst.cap,
                        Value.slice x13.snd.snd.snd.fst.base x13.snd.snd.snd.fst.len x13.snd.snd.snd.fst.cap]
                      (M.load (Shp.agg [kI, kI, Kind.slice, Kind.slice]) { block := x2, off := 0 : Addr } fun x14 =>
                        ret
                          (Value.agg
                            #[vI x14.fst, vI x14.snd.fst, Value.slice x14.snd.snd.fst.base x14.snd.snd.fst.len x14.snd.snd.fst.cap,
                              Value.slice x14.snd.snd.snd.fst.base x14.snd.snd.snd.fst.len x14.snd.snd.snd.fst.cap])))

theorem nf122_eq {T : Type} (M : Prims T) (a0_0 : Int) (a0_1 : Int) (a0_2 : Sl) (a0_3 : Sl) (a1 : Int) (a2 : Int) (ret : Value → T) (pan : List PanicEntry → T) :
    funcF M Go.Proofs.Try.prog Go.Proofs.Try.f122 [Value.agg #[vI a0_0, vI a0_1, Value.slice a0_2.base a0_2.len a0_2.cap, Value.slice a0_3.base a0_3.len a0_3.cap], vI a1, vI a2] ret pan = nf122 M a0_0 a0_1 a0_2 a0_3 a1 a2 ret pan := by kernel_rfl

-- 78 croft/croftref5.Come (528 ms)
noncomputable def nf78 {T : Type} (M : Prims T) (a0_0 : Int) (a0_1 : Int) (a0_2 : Sl) (a0_3 : Sl) (ret : Value → T) (pan : List PanicEntry → T) : T :=
  M.new 36 [vI a0_0, vI a0_1, Value.slice a0_2.base a0_2.len a0_2.cap, Value.slice a0_3.base a0_3.len a0_3.cap] fun x1 =>
    M.new 36 [vI 0, vI 0, Value.slice none 0 0, Value.slice none 0 0] fun x2 =>
      M.load sI { block := x1, off := 1 : Addr } fun x3 =>
        M.load sI { block := x1, off := 0 : Addr } fun x4 =>
          M.guard (0 ≤ wU x4)
            (M.store { block := x1, off := 1 : Addr } [vI (wI (x3 + wI (1 * 2 ^ min (wU x4).toNat 64)))]
              (M.load (Shp.agg [kI, kI, Kind.slice, Kind.slice]) { block := x1, off := 0 : Addr } fun x5 =>
                M.load sI { block := x1, off := 0 : Addr } fun x6 =>
                  M.call 122
                    [Value.agg
                        #[vI x5.fst, vI x5.snd.fst, Value.slice x5.snd.snd.fst.base x5.snd.snd.fst.len x5.snd.snd.fst.cap,
                          Value.slice x5.snd.snd.snd.fst.base x5.snd.snd.snd.fst.len x5.snd.snd.snd.fst.cap],
                      vI x3, vI x6]
                    [Shp.agg [kI, kI, Kind.slice, Kind.slice]]
                    (fun x7 =>
                      M.store { block := x2, off := 0 : Addr }
                        [vI x7.fst.fst, vI x7.fst.snd.fst, Value.slice x7.fst.snd.snd.fst.base x7.fst.snd.snd.fst.len x7.fst.snd.snd.fst.cap,
                          Value.slice x7.fst.snd.snd.snd.fst.base x7.fst.snd.snd.snd.fst.len x7.fst.snd.snd.snd.fst.cap]
                        (M.load (Shp.agg [kI, kI, Kind.slice, Kind.slice]) { block := x2, off := 0 : Addr } fun x8 =>
                          ret
                            (Value.agg
                              #[vI x8.fst, vI x8.snd.fst, Value.slice x8.snd.snd.fst.base x8.snd.snd.fst.len x8.snd.snd.fst.cap,
                                Value.slice x8.snd.snd.snd.fst.base x8.snd.snd.snd.fst.len x8.snd.snd.snd.fst.cap])))
                    fun x9 => pan x9))

theorem nf78_eq {T : Type} (M : Prims T) (a0_0 : Int) (a0_1 : Int) (a0_2 : Sl) (a0_3 : Sl) (ret : Value → T) (pan : List PanicEntry → T) :
    funcF M Go.Proofs.Try.prog Go.Proofs.Try.f78 [Value.agg #[vI a0_0, vI a0_1, Value.slice a0_2.base a0_2.len a0_2.cap, Value.slice a0_3.base a0_3.len a0_3.cap]] ret pan = nf78 M a0_0 a0_1 a0_2 a0_3 ret pan := by kernel_rfl

-- 139 croft/croftref5.dies (1030 ms)
noncomputable def nf139 {T : Type} (M : Prims T) (a0_0 : Int) (a0_1 : Int) (a0_2 : Sl) (a0_3 : Sl) (a1 : Int) (ret : Value → T) (pan : List PanicEntry → T) : T :=
  M.new 36 [vI a0_0, vI a0_1, Value.slice a0_2.base a0_2.len a0_2.cap, Value.slice a0_3.base a0_3.len a0_3.cap] fun x1 =>
    M.new 36 [vI 0, vI 0, Value.slice none 0 0, Value.slice none 0 0] fun x2 =>
      M.loop [sS, sI] ({ base := none, len := 0, cap := 0 : Sl }, 0, ()) fun k3 x4 =>
        M.load sS { block := x1, off := 3 : Addr } fun x5 =>
          bif decide (x4.snd.fst < (↑x5.len : Int)) then
            M.join [sS] (fun x6 => k3 ({ base := x6.fst.base, len := x6.fst.len, cap := x6.fst.cap : Sl }, wI (x4.snd.fst + 1), ())) fun k7 =>
              M.load sS { block := x1, off := 3 : Addr } fun x8 =>
                M.guard (0 ≤ x4.snd.fst ∧ x4.snd.fst < (↑x8.len : Int))
                  (dr M.fail x8.base fun x9 =>
                    M.load sI ((x9.add (x4.snd.fst.toNat * 2)).add 0) fun x10 =>
                      bif x10 != a1 then
                        M.load sS { block := x1, off := 3 : Addr } fun x11 =>
                          M.guard (0 ≤ x4.snd.fst ∧ x4.snd.fst < (↑x11.len : Int))
                            (dr M.fail x11.base fun x12 =>
                              M.load (Shp.agg [kI, kI]) (x12.add (x4.snd.fst.toNat * 2)) fun x13 =>
                                M.new 214 [vI x13.fst, vI x13.snd.fst] fun x14 =>
                                  M.sem
                                    (Builtin.append_ #[34, 34] 34
                                      #[Value.slice x4.fst.base x4.fst.len x4.fst.cap, Value.slice (some { block := x14, off := 0 : Addr }) 1 1])
                                    sS fun x15 => k7 ({ base := x15.base, len := x15.len, cap := x15.cap : Sl }, ()))
                      else k7 ({ base := x4.fst.base, len := x4.fst.len, cap := x4.fst.cap : Sl }, ()))
          else
            M.store { block := x1, off := 3 : Addr } [Value.slice x4.fst.base x4.fst.len x4.fst.cap]
              (M.load (Shp.agg [kI, kI, Kind.slice, Kind.slice]) { block := x1, off := 0 : Addr } fun x16 =>
                M.store { block := x2, off := 0 : Addr }
                  [vI x16.fst, vI x16.snd.fst, Value.slice x16.snd.snd.fst.base x16.snd.snd.fst.len x16.snd.snd.fst.cap,
                    Value.slice x16.snd.snd.snd.fst.base x16.snd.snd.snd.fst.len x16.snd.snd.snd.fst.cap]
                  (M.load (Shp.agg [kI, kI, Kind.slice, Kind.slice]) { block := x2, off := 0 : Addr } fun x17 =>
                    ret
                      (Value.agg
                        #[vI x17.fst, vI x17.snd.fst, Value.slice x17.snd.snd.fst.base x17.snd.snd.fst.len x17.snd.snd.fst.cap,
                          Value.slice x17.snd.snd.snd.fst.base x17.snd.snd.snd.fst.len x17.snd.snd.snd.fst.cap])))

theorem nf139_eq {T : Type} (M : Prims T) (a0_0 : Int) (a0_1 : Int) (a0_2 : Sl) (a0_3 : Sl) (a1 : Int) (ret : Value → T) (pan : List PanicEntry → T) :
    funcF M Go.Proofs.Try.prog Go.Proofs.Try.f139 [Value.agg #[vI a0_0, vI a0_1, Value.slice a0_2.base a0_2.len a0_2.cap, Value.slice a0_3.base a0_3.len a0_3.cap], vI a1] ret pan = nf139 M a0_0 a0_1 a0_2 a0_3 a1 ret pan := by kernel_rfl

-- 123 croft/croftref5.Go (474 ms)
noncomputable def nf123 {T : Type} (M : Prims T) (a0_0 : Int) (a0_1 : Int) (a0_2 : Sl) (a0_3 : Sl) (ret : Value → T) (pan : List PanicEntry → T) : T :=
  M.new 36 [vI a0_0, vI a0_1, Value.slice a0_2.base a0_2.len a0_2.cap, Value.slice a0_3.base a0_3.len a0_3.cap] fun x1 =>
    M.new 36 [vI 0, vI 0, Value.slice none 0 0, Value.slice none 0 0] fun x2 =>
      M.load (Shp.agg [kI, kI, Kind.slice, Kind.slice]) { block := x1, off := 0 : Addr } fun x3 =>
        M.call 138
          [Value.agg
              #[vI x3.fst, vI x3.snd.fst, Value.slice x3.snd.snd.fst.base x3.snd.snd.fst.len x3.snd.snd.fst.cap,
                Value.slice x3.snd.snd.snd.fst.base x3.snd.snd.snd.fst.len x3.snd.snd.snd.fst.cap]]
          [sI]
          (fun x4 =>
            M.load (Shp.agg [kI, kI, Kind.slice, Kind.slice]) { block := x1, off := 0 : Addr } fun x5 =>
              M.call 139
                [Value.agg
                    #[vI x5.fst, vI x5.snd.fst, Value.slice x5.snd.snd.fst.base x5.snd.snd.fst.len x5.snd.snd.fst.cap,
                      Value.slice x5.snd.snd.snd.fst.base x5.snd.snd.snd.fst.len x5.snd.snd.snd.fst.cap],
                  vI x4.fst]
                [Shp.agg [kI, kI, Kind.slice, Kind.slice]]
                (fun x6 =>
                  M.store { block := x1, off := 0 : Addr }
                    [vI x6.fst.fst, vI x6.fst.snd.fst, Value.slice x6.fst.snd.snd.fst.base x6.fst.snd.snd.fst.len x6.fst.snd.snd.fst.cap,
                      Value.slice x6.fst.snd.snd.snd.fst.base x6.fst.snd.snd.snd.fst.len x6.fst.snd.snd.snd.fst.cap]
                    (M.store { block := x1, off := 1 : Addr } [vI x4.fst]
                      (M.load (Shp.agg [kI, kI, Kind.slice, Kind.slice]) { block := x1, off := 0 : Addr } fun x7 =>
                        M.store { block := x2, off := 0 : Addr }
                          [vI x7.fst, vI x7.snd.fst, Value.slice x7.snd.snd.fst.base x7.snd.snd.fst.len x7.snd.snd.fst.cap,
                            Value.slice x7.snd.snd.snd.fst.base x7.snd.snd.snd.fst.len x7.snd.snd.snd.fst.cap]
                          (M.load (Shp.agg [kI, kI, Kind.slice, Kind.slice]) { block := x2, off := 0 : Addr } fun x8 =>
                            ret
                              (Value.agg
                                #[vI x8.fst, vI x8.snd.fst, Value.slice x8.snd.snd.fst.base x8.snd.snd.fst.len x8.snd.snd.fst.cap,
                                  Value.slice x8.snd.snd.snd.fst.base x8.snd.snd.snd.fst.len x8.snd.snd.snd.fst.cap])))))
                fun x9 => pan x9)
          fun x10 => pan x10

theorem nf123_eq {T : Type} (M : Prims T) (a0_0 : Int) (a0_1 : Int) (a0_2 : Sl) (a0_3 : Sl) (ret : Value → T) (pan : List PanicEntry → T) :
    funcF M Go.Proofs.Try.prog Go.Proofs.Try.f123 [Value.agg #[vI a0_0, vI a0_1, Value.slice a0_2.base a0_2.len a0_2.cap, Value.slice a0_3.base a0_3.len a0_3.cap]] ret pan = nf123 M a0_0 a0_1 a0_2 a0_3 ret pan := by kernel_rfl

-- 138 croft/croftref5.Top (211 ms)
noncomputable def nf138 {T : Type} (M : Prims T) (a0_0 : Int) (a0_1 : Int) (a0_2 : Sl) (a0_3 : Sl) (ret : Value → T) (pan : List PanicEntry → T) : T :=
  M.new 36 [vI a0_0, vI a0_1, Value.slice a0_2.base a0_2.len a0_2.cap, Value.slice a0_3.base a0_3.len a0_3.cap] fun x1 =>
    M.load sI { block := x1, off := 1 : Addr } fun x2 =>
      bif x2 == 0 then ret (vI (-1))
      else
        M.load sI { block := x1, off := 1 : Addr } fun x3 =>
          M.load sI { block := x1, off := 0 : Addr } fun x4 => M.guard (0 ≤ wU x4) (ret (vI (wI (x3 - wI (1 * 2 ^ min (wU x4).toNat 64)))))

theorem nf138_eq {T : Type} (M : Prims T) (a0_0 : Int) (a0_1 : Int) (a0_2 : Sl) (a0_3 : Sl) (ret : Value → T) (pan : List PanicEntry → T) :
    funcF M Go.Proofs.Try.prog Go.Proofs.Try.f138 [Value.agg #[vI a0_0, vI a0_1, Value.slice a0_2.base a0_2.len a0_2.cap, Value.slice a0_3.base a0_3.len a0_3.cap]] ret pan = nf138 M a0_0 a0_1 a0_2 a0_3 ret pan := by kernel_rfl

-- (*croft/croftlaw5.world).come (747 ms)
noncomputable def nf22 {T : Type} (M : Prims T) (a0 : Nat) (ret : Value → T) (pan : List PanicEntry → T) : T :=
  M.load sP { block := a0, off := 3 : Addr } fun x1 =>
    M.call 55 [Value.pointer x1, vB false] [sU, sI]
      (fun x2 =>
        M.join [sB]
          (fun x3 =>
            M.load sP { block := a0, off := 4 : Addr } fun x4 =>
              M.call 53 [Value.pointer x4] []
                (fun x5 =>
                  M.load (Shp.agg [kI, kI, Kind.slice, Kind.slice]) { block := a0, off := 6 : Addr } fun x6 =>
                    M.call 78
                      [Value.agg
                          #[vI x6.fst, vI x6.snd.fst, Value.slice x6.snd.snd.fst.base x6.snd.snd.fst.len x6.snd.snd.fst.cap,
                            Value.slice x6.snd.snd.snd.fst.base x6.snd.snd.snd.fst.len x6.snd.snd.snd.fst.cap]]
                      [Shp.agg [kI, kI, Kind.slice, Kind.slice]]
                      (fun x7 =>
                        M.store { block := a0, off := 6 : Addr }
                          [vI x7.fst.fst, vI x7.fst.snd.fst, Value.slice x7.fst.snd.snd.fst.base x7.fst.snd.snd.fst.len x7.fst.snd.snd.fst.cap,
                            Value.slice x7.fst.snd.snd.snd.fst.base x7.fst.snd.snd.snd.fst.len x7.fst.snd.snd.snd.fst.cap]
                          (M.draw
                            (M.load sP { block := a0, off := 4 : Addr } fun x8 =>
                              M.load sI { block := a0, off := 7 : Addr } fun x9 =>
                                M.call 39 [Value.pointer x8] [sI] (fun x10 => M.keep [({ block := a0, off := 7 : Addr }, [vI x9])] (ret (vB (x10.fst == x9)))) fun x11 =>
                                  pan x11)))
                      fun x12 => pan x12)
                fun x13 => pan x13)
          fun k14 =>
          bif x2.snd.fst != 0 then ret (vB false)
          else
            M.load sP { block := a0, off := 5 : Addr } fun x15 =>
              M.call 23 [Value.pointer x15] [sI]
                (fun x16 =>
                  bif x16.fst != 9 then ret (vB false)
                  else
                    M.load sP { block := a0, off := 5 : Addr } fun x17 =>
                      M.call 46 [Value.pointer x17] [sI] (fun x18 => bif x18.fst != 9 then ret (vB false) else k14 (false, ())) fun x19 => pan x19)
                fun x20 => pan x20)
      fun x21 => pan x21

theorem nf22_eq {T : Type} (M : Prims T) (a0 : Nat) (ret : Value → T) (pan : List PanicEntry → T) :
    funcF M Go.Proofs.Try.prog Go.Proofs.Try.f22 [vP a0] ret pan = nf22 M a0 ret pan := by kernel_rfl

-- croft/croftlaw5.lives (5254 ms)
noncomputable def nf21 {T : Type} (M : Prims T) (ret : Value → T) (pan : List PanicEntry → T) : T :=
  M.call 20 [Value.agg #[vU 65536, vI 2, vI 2]] [sP]
    (fun x1 =>
      M.sem (eqV 26 (Value.pointer x1.fst) (Value.pointer none)) sB fun x2 =>
        bif x2 then ret (vB false)
        else
          dr M.fail x1.fst fun x3 =>
            M.load sP { block := x3.block, off := x3.off + 5 : Addr } fun x4 =>
              M.call 41 [Value.pointer x4, vI 0] [sU, sI]
                (fun x5 =>
                  M.join [sB]
                    (fun x6 =>
                      dr M.fail x1.fst fun x7 =>
                        M.load sP { block := x7.block, off := x7.off + 5 : Addr } fun x8 =>
                          M.call 41 [Value.pointer x8, vI 0] [sU, sI]
                            (fun x9 =>
                              M.draw
                                (dr M.fail x1.fst fun x10 =>
                                  M.load (Shp.agg [kU, kI, kI]) (x10.add 0) fun x11 =>
                                    dr M.fail x1.fst fun x12 =>
                                      M.load sP { block := x12.block, off := x12.off + 3 : Addr } fun x13 =>
                                        dr M.fail x1.fst fun x14 =>
                                          M.load sP { block := x14.block, off := x14.off + 4 : Addr } fun x15 =>
                                            dr M.fail x1.fst fun x16 =>
                                              M.load sP { block := x16.block, off := x16.off + 5 : Addr } fun x17 =>
                                                M.call 40 [Value.pointer x17] [sS]
                                                  (fun x18 =>
                                                    M.keep
                                                      [({ block := x14.block, off := x14.off + 4 : Addr }, [Value.pointer x15]),
                                                        ({ block := x12.block, off := x12.off + 3 : Addr }, [Value.pointer x13]),
                                                        (x10.add 0, [vU x11.fst, vI x11.snd.fst, vI x11.snd.snd.fst])]
                                                      (M.call 77
                                                        [Value.agg #[vU x11.fst, vI x11.snd.fst, vI x11.snd.snd.fst], Value.pointer x13, Value.pointer x15,
                                                          Value.slice x18.fst.base x18.fst.len x18.fst.cap]
                                                        [sP, sI]
                                                        (fun x19 =>
                                                          M.draw
                                                            (bif x9.fst == 65536 then
                                                              bif x9.snd.fst == 0 then
                                                                dr M.fail x1.fst fun x20 =>
                                                                  M.load sP { block := x20.block, off := x20.off + 5 : Addr } fun x21 =>
                                                                    M.both
                                                                      (M.call 40 [Value.pointer x21] [sS]
                                                                        (fun x22 =>
                                                                          M.new 22 [vU 69632, vU 73728, vU 0] fun x23 =>
                                                                            M.call 43
                                                                              [Value.slice x22.fst.base x22.fst.len x22.fst.cap,
                                                                                Value.slice (some { block := x23, off := 0 : Addr }) 3 3]
                                                                              [sB]
                                                                              (fun x24 =>
                                                                                bif x24.fst then
                                                                                  bif x19.snd.fst == 0 then
                                                                                    M.sem (eqV 32 (Value.pointer x19.fst) (Value.pointer none)) sB fun x25 =>
                                                                                      bif !x25 then
                                                                                        dr M.fail x1.fst fun x26 =>
                                                                                          M.load sP { block := x26.block, off := x26.off + 5 : Addr } fun x27 =>
                                                                                            M.call 40 [Value.pointer x19.fst] [sS]
                                                                                              (fun x28 =>
                                                                                                M.keep
                                                                                                  [({ block := x26.block, off := x26.off + 5 : Addr }, [Value.pointer x27])]
                                                                                                  (M.call 40 [Value.pointer x27] [sS]
                                                                                                    (fun x29 =>
                                                                                                      M.call 43
                                                                                                        [Value.slice x28.fst.base x28.fst.len x28.fst.cap,
                                                                                                          Value.slice x29.fst.base x29.fst.len x29.fst.cap]
                                                                                                        [sB] (fun x30 => ret (vB x30.fst)) fun x31 => pan x31)
                                                                                                    fun x32 => pan x32))
                                                                                              fun x33 => pan x33
                                                                                      else ret (vB false)
                                                                                  else ret (vB false)
                                                                                else ret (vB false))
                                                                              fun x34 => pan x34)
                                                                        fun x35 => pan x35)
                                                                      (M.new 22 [vU 69632, vU 73728, vU 0] fun x36 =>
                                                                        M.keep [({ block := x20.block, off := x20.off + 5 : Addr }, [Value.pointer x21])]
                                                                          (M.call 40 [Value.pointer x21] [sS]
                                                                            (fun x37 =>
                                                                              M.call 43
                                                                                [Value.slice x37.fst.base x37.fst.len x37.fst.cap,
                                                                                  Value.slice (some { block := x36, off := 0 : Addr }) 3 3]
                                                                                [sB]
                                                                                (fun x38 =>
                                                                                  bif x38.fst then
                                                                                    bif x19.snd.fst == 0 then
                                                                                      M.sem (eqV 32 (Value.pointer x19.fst) (Value.pointer none)) sB fun x39 =>
                                                                                        bif !x39 then
                                                                                          dr M.fail x1.fst fun x40 =>
                                                                                            M.load sP { block := x40.block, off := x40.off + 5 : Addr } fun x41 =>
                                                                                              M.call 40 [Value.pointer x19.fst] [sS]
                                                                                                (fun x42 =>
                                                                                                  M.keep
                                                                                                    [({ block := x40.block, off := x40.off + 5 : Addr },
                                                                                                        [Value.pointer x41])]
                                                                                                    (M.call 40 [Value.pointer x41] [sS]
                                                                                                      (fun x43 =>
                                                                                                        M.call 43
                                                                                                          [Value.slice x42.fst.base x42.fst.len x42.fst.cap,
                                                                                                            Value.slice x43.fst.base x43.fst.len x43.fst.cap]
                                                                                                          [sB] (fun x44 => ret (vB x44.fst)) fun x45 => pan x45)
                                                                                                      fun x46 => pan x46))
                                                                                                fun x47 => pan x47
                                                                                        else ret (vB false)
                                                                                    else ret (vB false)
                                                                                  else ret (vB false))
                                                                                fun x48 => pan x48)
                                                                            fun x49 => pan x49))
                                                              else M.both (ret (vB false)) (ret (vB false))
                                                            else M.both (ret (vB false)) (ret (vB false))))
                                                        fun x50 => pan x50))
                                                  fun x51 => pan x51))
                            fun x52 => pan x52)
                    fun k53 =>
                    bif x5.fst != 0 then ret (vB false)
                    else
                      bif x5.snd.fst != 2 then ret (vB false)
                      else
                        dr M.fail x1.fst fun x54 =>
                          M.load sP { block := x54.block, off := x54.off + 5 : Addr } fun x55 =>
                            M.call 23 [Value.pointer x55] [sI]
                              (fun x56 =>
                                bif x56.fst != 9 then ret (vB false)
                                else
                                  M.call 22 [Value.pointer x1.fst] [sB]
                                    (fun x57 =>
                                      bif !x57.fst then ret (vB false)
                                      else
                                        dr M.fail x1.fst fun x58 =>
                                          M.load sP { block := x58.block, off := x58.off + 5 : Addr } fun x59 =>
                                            M.call 23 [Value.pointer x59] [sI]
                                              (fun x60 =>
                                                bif x60.fst != 0 then ret (vB false)
                                                else
                                                  dr M.fail x1.fst fun x61 =>
                                                    M.load sP { block := x61.block, off := x61.off + 5 : Addr } fun x62 =>
                                                      M.call 23 [Value.pointer x62] [sI] (fun x63 => bif x63.fst != 9 then ret (vB false) else k53 (false, ())) fun x64 =>
                                                        pan x64)
                                              fun x65 => pan x65)
                                    fun x66 => pan x66)
                              fun x67 => pan x67)
                fun x68 => pan x68)
    fun x69 => pan x69

theorem nf21_eq {T : Type} (M : Prims T) (ret : Value → T) (pan : List PanicEntry → T) :
    funcF M Go.Proofs.Try.prog Go.Proofs.Try.f21 [] ret pan = nf21 M  ret pan := by kernel_rfl

-- 81 (croft/croftlaw5.book).stuck (222 ms)
noncomputable def nf81 {T : Type} (M : Prims T) (a0_0 : Sl) (a1 : Int) (a2 : Int) (ret : Value → T) (pan : List PanicEntry → T) : T :=
  M.new 42 [Value.slice a0_0.base a0_0.len a0_0.cap] fun x1 =>
    M.loop [sB, sI] (false, 0, ()) fun k2 x3 =>
      bif decide (x3.snd.fst < a1) then
        M.load (Shp.agg [Kind.slice]) { block := x1, off := 0 : Addr } fun x4 =>
          M.call 83 [Value.agg #[Value.slice x4.fst.base x4.fst.len x4.fst.cap], vI x3.snd.fst, vI a2] [sB]
            (fun x5 => bif !x5.fst then ret (vB false) else M.guard (0 ≤ wU a2) (k2 (x3.fst, wI (x3.snd.fst + wI (1 * 2 ^ min (wU a2).toNat 64)), ()))) fun x6 => pan x6
      else ret (vB true)

theorem nf81_eq {T : Type} (M : Prims T) (a0_0 : Sl) (a1 : Int) (a2 : Int) (ret : Value → T) (pan : List PanicEntry → T) :
    funcF M Go.Proofs.Try.prog Go.Proofs.Try.f81 [Value.agg #[Value.slice a0_0.base a0_0.len a0_0.cap], vI a1, vI a2] ret pan = nf81 M a0_0 a1 a2 ret pan := by kernel_rfl

-- 83 (croft/croftlaw5.book).meets (2037 ms)
noncomputable def nf83 {T : Type} (M : Prims T) (a0_0 : Sl) (a1 : Int) (a2 : Int) (ret : Value → T) (pan : List PanicEntry → T) : T :=
  M.new 42 [Value.slice a0_0.base a0_0.len a0_0.cap] fun x1 =>
    M.loop [sB, sI] (false, 0, ()) fun k2 x3 =>
      M.load sS { block := x1, off := 0 : Addr } fun x4 =>
        bif decide (x3.snd.fst < (↑x4.len : Int)) then
          M.join [sB] (fun x5 => k2 (x5.fst, wI (x3.snd.fst + 1), ())) fun k6 =>
            M.draw
              (M.load sS { block := x1, off := 0 : Addr } fun x7 =>
                M.guard (0 ≤ x3.snd.fst ∧ x3.snd.fst < (↑x7.len : Int))
                  (dr M.fail x7.base fun x8 =>
                    M.load sI ((x8.add (x3.snd.fst.toNat * 3)).add 0) fun x9 =>
                      M.guard (0 ≤ wU a2)
                        (bif decide (x9 < wI (a1 + wI (1 * 2 ^ min (wU a2).toNat 64))) then
                          M.load sS { block := x1, off := 0 : Addr } fun x10 =>
                            M.guard (0 ≤ x3.snd.fst ∧ x3.snd.fst < (↑x10.len : Int))
                              (dr M.fail x10.base fun x11 =>
                                M.load sI ((x11.add (x3.snd.fst.toNat * 3)).add 0) fun x12 =>
                                  M.load sS { block := x1, off := 0 : Addr } fun x13 =>
                                    M.guard (0 ≤ x3.snd.fst ∧ x3.snd.fst < (↑x13.len : Int))
                                      (dr M.fail x13.base fun x14 =>
                                        M.load sI { block := (x14.add (x3.snd.fst.toNat * 3)).block, off := (x14.add (x3.snd.fst.toNat * 3)).off + 1 : Addr } fun x15 =>
                                          M.guard (0 ≤ wU x15) (bif decide (a1 < wI (x12 + wI (1 * 2 ^ min (wU x15).toNat 64))) then ret (vB true) else k6 (x3.fst, ()))))
                        else k6 (x3.fst, ()))))
        else ret (vB false)

theorem nf83_eq {T : Type} (M : Prims T) (a0_0 : Sl) (a1 : Int) (a2 : Int) (ret : Value → T) (pan : List PanicEntry → T) :
    funcF M Go.Proofs.Try.prog Go.Proofs.Try.f83 [Value.agg #[Value.slice a0_0.base a0_0.len a0_0.cap], vI a1, vI a2] ret pan = nf83 M a0_0 a1 a2 ret pan := by kernel_rfl

-- 82 (*croft/croftlaw5.world).page (1076 ms)
noncomputable def nf82 {T : Type} (M : Prims T) (a0 : Nat) (a1 : Int) (ret : Value → T) (pan : List PanicEntry → T) : T :=
  M.join [sI] (fun x1 => M.load sU { block := a0, off := 0 : Addr } fun x2 => ret (vI (wI (wU ((wU (a1 - x2)).tdiv 4096))))) fun k3 =>
    M.draw
      (M.load sU { block := a0, off := 0 : Addr } fun x4 =>
        bif decide (a1 < x4) then ret (vI (-1))
        else
          bif a1.tmod 4096 != 0 then ret (vI (-1))
          else
            M.load sU { block := a0, off := 0 : Addr } fun x5 =>
              M.load sI { block := a0, off := 7 : Addr } fun x6 => bif decide (wU (a1 - x5) ≥ wU (4096 * wU x6)) then ret (vI (-1)) else k3 (0, ()))

theorem nf82_eq {T : Type} (M : Prims T) (a0 : Nat) (a1 : Int) (ret : Value → T) (pan : List PanicEntry → T) :
    funcF M Go.Proofs.Try.prog Go.Proofs.Try.f82 [vP a0, vU a1] ret pan = nf82 M a0 a1 ret pan := by kernel_rfl

-- 84 (*croft/croftlaw5.world).goes (617 ms)
noncomputable def nf84 {T : Type} (M : Prims T) (a0 : Nat) (ret : Value → T) (pan : List PanicEntry → T) : T :=
  M.join [sB]
    (fun x1 =>
      M.load (Shp.agg [kI, kI, Kind.slice, Kind.slice]) { block := a0, off := 6 : Addr } fun x2 =>
        M.call 123
          [Value.agg
              #[vI x2.fst, vI x2.snd.fst, Value.slice x2.snd.snd.fst.base x2.snd.snd.fst.len x2.snd.snd.fst.cap,
                Value.slice x2.snd.snd.snd.fst.base x2.snd.snd.snd.fst.len x2.snd.snd.snd.fst.cap]]
          [Shp.agg [kI, kI, Kind.slice, Kind.slice]]
          (fun x3 =>
            M.store { block := a0, off := 6 : Addr }
              [vI x3.fst.fst, vI x3.fst.snd.fst, Value.slice x3.fst.snd.snd.fst.base x3.fst.snd.snd.fst.len x3.fst.snd.snd.fst.cap,
                Value.slice x3.fst.snd.snd.snd.fst.base x3.fst.snd.snd.snd.fst.len x3.fst.snd.snd.snd.fst.cap]
              (ret (vB true)))
          fun x4 => pan x4)
    fun k5 =>
    M.load sP { block := a0, off := 3 : Addr } fun x6 =>
      M.call 56 [Value.pointer x6, vI 1] [sI]
        (fun x7 =>
          bif x7.fst != 0 then ret (vB false)
          else
            M.load sP { block := a0, off := 4 : Addr } fun x8 =>
              M.call 54 [Value.pointer x8, vI 1] [sI] (fun x9 => bif x9.fst != 0 then ret (vB false) else k5 (false, ())) fun x10 => pan x10)
        fun x11 => pan x11

theorem nf84_eq {T : Type} (M : Prims T) (a0 : Nat) (ret : Value → T) (pan : List PanicEntry → T) :
    funcF M Go.Proofs.Try.prog Go.Proofs.Try.f84 [vP a0] ret pan = nf84 M a0 ret pan := by kernel_rfl

-- 52 (croft/croftlaw5.book).without (629 ms)
noncomputable def nf52 {T : Type} (M : Prims T) (a0_0 : Sl) (a1 : Int) (ret : Value → T) (pan : List PanicEntry → T) : T :=
  M.new 42 [Value.slice a0_0.base a0_0.len a0_0.cap] fun x1 =>
    M.new 42 [Value.slice none 0 0] fun x2 =>
      M.loop [sS, sI] ({ base := none, len := 0, cap := 0 : Sl }, 0, ()) fun k3 x4 =>
        M.load sS { block := x1, off := 0 : Addr } fun x5 =>
          bif decide (x4.snd.fst < (↑x5.len : Int)) then
            M.join [sS] (fun x6 => k3 ({ base := x6.fst.base, len := x6.fst.len, cap := x6.fst.cap : Sl }, wI (x4.snd.fst + 1), ())) fun k7 =>
              bif x4.snd.fst != a1 then
                M.load sS { block := x1, off := 0 : Addr } fun x8 =>
                  M.guard (0 ≤ x4.snd.fst ∧ x4.snd.fst < (↑x8.len : Int))
                    (dr M.fail x8.base fun x9 =>
                      M.load (Shp.agg [kI, kI, Kind.int IntKind.u8]) (x9.add (x4.snd.fst.toNat * 3)) fun x10 =>
                        M.new 49 [vI x10.fst, vI x10.snd.fst, v8 x10.snd.snd.fst] fun x11 =>
                          M.sem (Builtin.append_ #[40, 40] 40 #[Value.slice x4.fst.base x4.fst.len x4.fst.cap, Value.slice (some { block := x11, off := 0 : Addr }) 1 1]) sS
                            fun x12 => k7 ({ base := x12.base, len := x12.len, cap := x12.cap : Sl }, ()))
              else k7 ({ base := x4.fst.base, len := x4.fst.len, cap := x4.fst.cap : Sl }, ())
          else
            M.store { block := x2, off := 0 : Addr } [Value.slice x4.fst.base x4.fst.len x4.fst.cap]
              (M.load (Shp.agg [Kind.slice]) { block := x2, off := 0 : Addr } fun x13 => ret (Value.agg #[Value.slice x13.fst.base x13.fst.len x13.fst.cap]))

theorem nf52_eq {T : Type} (M : Prims T) (a0_0 : Sl) (a1 : Int) (ret : Value → T) (pan : List PanicEntry → T) :
    funcF M Go.Proofs.Try.prog Go.Proofs.Try.f52 [Value.agg #[Value.slice a0_0.base a0_0.len a0_0.cap], vI a1] ret pan = nf52 M a0_0 a1 ret pan := by kernel_rfl

-- 26 (*croft/croftlaw5.world).at (142 ms)
noncomputable def nf26 {T : Type} (M : Prims T) (a0 : Nat) (a1 : Int) (ret : Value → T) (pan : List PanicEntry → T) : T :=
  M.load sU { block := a0, off := 0 : Addr } fun x1 => ret (vU (wU (x1 + wU (4096 * wU a1))))

theorem nf26_eq {T : Type} (M : Prims T) (a0 : Nat) (a1 : Int) (ret : Value → T) (pan : List PanicEntry → T) :
    funcF M Go.Proofs.Try.prog Go.Proofs.Try.f26 [vP a0, vI a1] ret pan = nf26 M a0 a1 ret pan := by kernel_rfl

-- croft/croftlaw5.do (11989 ms)
noncomputable def nf24 {T : Type} (M : Prims T) (a0 : Nat) (a1_0 : Sl) (a2_0 : Int) (a2_1 : Int) (a2_2 : Int) (ret : Value → T) (pan : List PanicEntry → T) : T :=
  M.new 42 [Value.slice a1_0.base a1_0.len a1_0.cap] fun x1 =>
    M.new 46 [vI a2_0, vI a2_1, vI a2_2] fun x2 =>
      M.new 42 [Value.slice none 0 0] fun x3 =>
        M.load sS { block := x1, off := 0 : Addr } fun x4 =>
          M.join [sI]
            (fun x5 =>
              M.join [sI]
                (fun x6 =>
                  M.load sI { block := x2, off := 0 : Addr } fun x7 =>
                    M.join [sB]
                      (fun x8 =>
                        bif x8.fst then
                          M.load sP { block := a0, off := 5 : Addr } fun x9 =>
                            M.call 41 [Value.pointer x9, vI x6.fst] [sU, sI]
                              (fun x10 =>
                                M.draw
                                  (M.load (Shp.agg [Kind.slice]) { block := x1, off := 0 : Addr } fun x11 =>
                                    M.load sI { block := a0, off := 7 : Addr } fun x12 =>
                                      M.call 81 [Value.agg #[Value.slice x11.fst.base x11.fst.len x11.fst.cap], vI x12, vI x6.fst] [sB]
                                        (fun x13 =>
                                          bif x10.snd.fst != 0 then
                                            M.load (Shp.agg [Kind.slice]) { block := x1, off := 0 : Addr } fun x14 =>
                                              bif x10.snd.fst == 2 then
                                                bif x13.fst then
                                                  M.store { block := x3, off := 0 : Addr } [Value.slice x14.fst.base x14.fst.len x14.fst.cap]
                                                    (M.load (Shp.agg [Kind.slice]) { block := x3, off := 0 : Addr } fun x15 =>
                                                      ret (Value.tuple #[Value.agg #[Value.slice x15.fst.base x15.fst.len x15.fst.cap], vB (x10.fst == 0)]))
                                                else
                                                  M.store { block := x3, off := 0 : Addr } [Value.slice x14.fst.base x14.fst.len x14.fst.cap]
                                                    (M.load (Shp.agg [Kind.slice]) { block := x3, off := 0 : Addr } fun x16 =>
                                                      ret (Value.tuple #[Value.agg #[Value.slice x16.fst.base x16.fst.len x16.fst.cap], vB false]))
                                              else
                                                M.store { block := x3, off := 0 : Addr } [Value.slice x14.fst.base x14.fst.len x14.fst.cap]
                                                  (M.load (Shp.agg [Kind.slice]) { block := x3, off := 0 : Addr } fun x17 =>
                                                    ret (Value.tuple #[Value.agg #[Value.slice x17.fst.base x17.fst.len x17.fst.cap], vB false]))
                                          else
                                            M.call 82 [vP a0, vU x10.fst] [sI]
                                              (fun x18 =>
                                                M.join [sB]
                                                  (fun x19 =>
                                                    M.draw
                                                      (M.load sS { block := x1, off := 0 : Addr } fun x20 =>
                                                        M.load sS { block := x1, off := 0 : Addr } fun x21 =>
                                                          M.load sI { block := x2, off := 2 : Addr } fun x22 =>
                                                            M.both
                                                              (M.new 49 [] fun x23 =>
                                                                M.keep
                                                                  [({ block := x2, off := 2 : Addr }, [vI x22]),
                                                                    ({ block := x1, off := 0 : Addr }, [Value.slice x21.base x21.len x21.cap]),
                                                                    ({ block := x1, off := 0 : Addr }, [Value.slice x20.base x20.len x20.cap])]
                                                                  (M.both
                                                                    (M.sem
                                                                      (Builtin.append_ #[40, 40] 40
                                                                        #[Value.slice (some { block := x23, off := 0 : Addr }) 0 0, Value.slice x20.base x20.len x20.cap])
                                                                      sS fun x24 =>
                                                                      M.keep
                                                                        [({ block := x2, off := 2 : Addr }, [vI x22]),
                                                                          ({ block := x1, off := 0 : Addr }, [Value.slice x21.base x21.len x21.cap])]
                                                                        (M.new 49 [vI x18.fst, vI x6.fst, v8 (IntKind.u8.wrap (wI (wI ((↑x21.len : Int) * 7) + x22)))]
                                                                          fun x25 =>
                                                                          M.sem
                                                                            (Builtin.append_ #[40, 40] 40
                                                                              #[Value.slice x24.base x24.len x24.cap,
                                                                                Value.slice (some { block := x25, off := 0 : Addr }) 1 1])
                                                                            sS fun x26 =>
                                                                            M.store { block := x3, off := 0 : Addr } [Value.slice x26.base x26.len x26.cap]
                                                                              (M.load (Shp.agg [Kind.slice]) { block := x3, off := 0 : Addr } fun x27 =>
                                                                                ret
                                                                                  (Value.tuple #[Value.agg #[Value.slice x27.fst.base x27.fst.len x27.fst.cap], vB true]))))
                                                                    (M.new 49 [vI x18.fst, vI x6.fst, v8 (IntKind.u8.wrap (wI (wI ((↑x21.len : Int) * 7) + x22)))]
                                                                      fun x28 =>
                                                                      M.keep [({ block := x1, off := 0 : Addr }, [Value.slice x20.base x20.len x20.cap])]
                                                                        (M.sem
                                                                          (Builtin.append_ #[40, 40] 40
                                                                            #[Value.slice (some { block := x23, off := 0 : Addr }) 0 0,
                                                                              Value.slice x20.base x20.len x20.cap])
                                                                          sS fun x29 =>
                                                                          M.sem
                                                                            (Builtin.append_ #[40, 40] 40
                                                                              #[Value.slice x29.base x29.len x29.cap,
                                                                                Value.slice (some { block := x28, off := 0 : Addr }) 1 1])
                                                                            sS fun x30 =>
                                                                            M.store { block := x3, off := 0 : Addr } [Value.slice x30.base x30.len x30.cap]
                                                                              (M.load (Shp.agg [Kind.slice]) { block := x3, off := 0 : Addr } fun x31 =>
                                                                                ret
                                                                                  (Value.tuple
                                                                                    #[Value.agg #[Value.slice x31.fst.base x31.fst.len x31.fst.cap], vB true]))))))
                                                              (M.new 49 [vI x18.fst, vI x6.fst, v8 (IntKind.u8.wrap (wI (wI ((↑x21.len : Int) * 7) + x22)))] fun x32 =>
                                                                M.keep [({ block := x1, off := 0 : Addr }, [Value.slice x20.base x20.len x20.cap])]
                                                                  (M.new 49 [] fun x33 =>
                                                                    M.keep [({ block := x1, off := 0 : Addr }, [Value.slice x20.base x20.len x20.cap])]
                                                                      (M.sem
                                                                        (Builtin.append_ #[40, 40] 40
                                                                          #[Value.slice (some { block := x33, off := 0 : Addr }) 0 0, Value.slice x20.base x20.len x20.cap])
                                                                        sS fun x34 =>
                                                                        M.sem
                                                                          (Builtin.append_ #[40, 40] 40
                                                                            #[Value.slice x34.base x34.len x34.cap,
                                                                              Value.slice (some { block := x32, off := 0 : Addr }) 1 1])
                                                                          sS fun x35 =>
                                                                          M.store { block := x3, off := 0 : Addr } [Value.slice x35.base x35.len x35.cap]
                                                                            (M.load (Shp.agg [Kind.slice]) { block := x3, off := 0 : Addr } fun x36 =>
                                                                              ret
                                                                                (Value.tuple
                                                                                  #[Value.agg #[Value.slice x36.fst.base x36.fst.len x36.fst.cap], vB true])))))))
                                                  fun k37 =>
                                                  bif x13.fst then
                                                    M.load (Shp.agg [Kind.slice]) { block := x1, off := 0 : Addr } fun x38 =>
                                                      M.store { block := x3, off := 0 : Addr } [Value.slice x38.fst.base x38.fst.len x38.fst.cap]
                                                        (M.load (Shp.agg [Kind.slice]) { block := x3, off := 0 : Addr } fun x39 =>
                                                          ret (Value.tuple #[Value.agg #[Value.slice x39.fst.base x39.fst.len x39.fst.cap], vB false]))
                                                  else
                                                    bif decide (x18.fst < 0) then
                                                      M.load (Shp.agg [Kind.slice]) { block := x1, off := 0 : Addr } fun x40 =>
                                                        M.store { block := x3, off := 0 : Addr } [Value.slice x40.fst.base x40.fst.len x40.fst.cap]
                                                          (M.load (Shp.agg [Kind.slice]) { block := x3, off := 0 : Addr } fun x41 =>
                                                            ret (Value.tuple #[Value.agg #[Value.slice x41.fst.base x41.fst.len x41.fst.cap], vB false]))
                                                    else
                                                      M.guard (0 ≤ wU x6.fst)
                                                        (M.guard (wI (1 * 2 ^ min (wU x6.fst).toNat 64) ≠ 0)
                                                          (bif x18.fst.tmod (wI (1 * 2 ^ min (wU x6.fst).toNat 64)) != 0 then
                                                            M.load (Shp.agg [Kind.slice]) { block := x1, off := 0 : Addr } fun x42 =>
                                                              M.store { block := x3, off := 0 : Addr } [Value.slice x42.fst.base x42.fst.len x42.fst.cap]
                                                                (M.load (Shp.agg [Kind.slice]) { block := x3, off := 0 : Addr } fun x43 =>
                                                                  ret (Value.tuple #[Value.agg #[Value.slice x43.fst.base x43.fst.len x43.fst.cap], vB false]))
                                                          else
                                                            M.guard (0 ≤ wU x6.fst)
                                                              (M.load sI { block := a0, off := 7 : Addr } fun x44 =>
                                                                bif decide (wI (x18.fst + wI (1 * 2 ^ min (wU x6.fst).toNat 64)) > x44) then
                                                                  M.load (Shp.agg [Kind.slice]) { block := x1, off := 0 : Addr } fun x45 =>
                                                                    M.store { block := x3, off := 0 : Addr } [Value.slice x45.fst.base x45.fst.len x45.fst.cap]
                                                                      (M.load (Shp.agg [Kind.slice]) { block := x3, off := 0 : Addr } fun x46 =>
                                                                        ret (Value.tuple #[Value.agg #[Value.slice x46.fst.base x46.fst.len x46.fst.cap], vB false]))
                                                                else
                                                                  M.load (Shp.agg [Kind.slice]) { block := x1, off := 0 : Addr } fun x47 =>
                                                                    M.call 83 [Value.agg #[Value.slice x47.fst.base x47.fst.len x47.fst.cap], vI x18.fst, vI x6.fst] [sB]
                                                                      (fun x48 =>
                                                                        bif x48.fst then
                                                                          M.load (Shp.agg [Kind.slice]) { block := x1, off := 0 : Addr } fun x49 =>
                                                                            M.store { block := x3, off := 0 : Addr } [Value.slice x49.fst.base x49.fst.len x49.fst.cap]
                                                                              (M.load (Shp.agg [Kind.slice]) { block := x3, off := 0 : Addr } fun x50 =>
                                                                                ret
                                                                                  (Value.tuple #[Value.agg #[Value.slice x50.fst.base x50.fst.len x50.fst.cap], vB false]))
                                                                        else k37 (false, ()))
                                                                      fun x51 => pan x51))))
                                              fun x52 => pan x52)
                                        fun x53 => pan x53))
                              fun x54 => pan x54
                        else
                          M.join [sB]
                            (fun x55 =>
                              bif x55.fst then
                                bif (↑x4.len : Int) == 0 then
                                  M.load (Shp.agg [Kind.slice]) { block := x1, off := 0 : Addr } fun x56 =>
                                    M.store { block := x3, off := 0 : Addr } [Value.slice x56.fst.base x56.fst.len x56.fst.cap]
                                      (M.load (Shp.agg [Kind.slice]) { block := x3, off := 0 : Addr } fun x57 =>
                                        ret (Value.tuple #[Value.agg #[Value.slice x57.fst.base x57.fst.len x57.fst.cap], vB true]))
                                else
                                  M.load sS { block := x1, off := 0 : Addr } fun x58 =>
                                    M.guard (0 ≤ x5.fst ∧ x5.fst < (↑x58.len : Int))
                                      (dr M.fail x58.base fun x59 =>
                                        M.load (Shp.agg [kI, kI, Kind.int IntKind.u8]) (x59.add (x5.fst.toNat * 3)) fun x60 =>
                                          M.new 49 [vI 0, vI 0, v8 0] fun x61 =>
                                            M.store { block := x61, off := 0 : Addr } [vI x60.fst, vI x60.snd.fst, v8 x60.snd.snd.fst]
                                              (M.draw
                                                (M.load (Shp.agg [Kind.slice]) { block := x1, off := 0 : Addr } fun x62 =>
                                                  M.load sP { block := a0, off := 5 : Addr } fun x63 =>
                                                    M.load sI { block := x61, off := 0 : Addr } fun x64 =>
                                                      M.load sI { block := x61, off := 1 : Addr } fun x65 =>
                                                        M.call 52 [Value.agg #[Value.slice x62.fst.base x62.fst.len x62.fst.cap], vI x5.fst] [Shp.agg [Kind.slice]]
                                                          (fun x66 =>
                                                            M.keep
                                                              [({ block := x61, off := 1 : Addr }, [vI x65]), ({ block := x61, off := 0 : Addr }, [vI x64]),
                                                                ({ block := a0, off := 5 : Addr }, [Value.pointer x63])]
                                                              (M.call 26 [vP a0, vI x64] [sU]
                                                                (fun x67 =>
                                                                  M.keep
                                                                    [({ block := x61, off := 1 : Addr }, [vI x65]), ({ block := a0, off := 5 : Addr }, [Value.pointer x63])]
                                                                    (M.call 42 [Value.pointer x63, vU x67.fst, vI x65] [sI]
                                                                      (fun x68 =>
                                                                        bif x68.fst == 0 then
                                                                          M.load sP { block := a0, off := 5 : Addr } fun x69 =>
                                                                            M.load sI { block := x61, off := 0 : Addr } fun x70 =>
                                                                              M.load sI { block := x61, off := 1 : Addr } fun x71 =>
                                                                                M.call 26 [vP a0, vI x70] [sU]
                                                                                  (fun x72 =>
                                                                                    M.keep
                                                                                      [({ block := x61, off := 1 : Addr }, [vI x71]),
                                                                                        ({ block := a0, off := 5 : Addr }, [Value.pointer x69])]
                                                                                      (M.call 42 [Value.pointer x69, vU x72.fst, vI x71] [sI]
                                                                                        (fun x73 =>
                                                                                          M.store { block := x3, off := 0 : Addr }
                                                                                            [Value.slice x66.fst.fst.base x66.fst.fst.len x66.fst.fst.cap]
                                                                                            (M.load (Shp.agg [Kind.slice]) { block := x3, off := 0 : Addr } fun x74 =>
                                                                                              ret
                                                                                                (Value.tuple
                                                                                                  #[Value.agg #[Value.slice x74.fst.base x74.fst.len x74.fst.cap],
                                                                                                    vB (x73.fst == 1)])))
                                                                                        fun x75 => pan x75))
                                                                                  fun x76 => pan x76
                                                                        else
                                                                          M.store { block := x3, off := 0 : Addr }
                                                                            [Value.slice x66.fst.fst.base x66.fst.fst.len x66.fst.fst.cap]
                                                                            (M.load (Shp.agg [Kind.slice]) { block := x3, off := 0 : Addr } fun x77 =>
                                                                              ret (Value.tuple #[Value.agg #[Value.slice x77.fst.base x77.fst.len x77.fst.cap], vB false])))
                                                                      fun x78 => pan x78))
                                                                fun x79 => pan x79))
                                                          fun x80 => pan x80)))
                              else
                                bif x7 == 5 then
                                  M.join [sB]
                                    (fun x81 =>
                                      M.load sS { block := x1, off := 0 : Addr } fun x82 =>
                                        M.guard (0 ≤ x5.fst ∧ x5.fst < (↑x82.len : Int))
                                          (dr M.fail x82.base fun x83 =>
                                            M.load (Shp.agg [kI, kI, Kind.int IntKind.u8]) (x83.add (x5.fst.toNat * 3)) fun x84 =>
                                              M.new 49 [vI 0, vI 0, v8 0] fun x85 =>
                                                M.store { block := x85, off := 0 : Addr } [vI x84.fst, vI x84.snd.fst, v8 x84.snd.snd.fst]
                                                  (M.draw
                                                    (M.load sP { block := a0, off := 5 : Addr } fun x86 =>
                                                      M.load sI { block := x85, off := 0 : Addr } fun x87 =>
                                                        M.load sI { block := x85, off := 1 : Addr } fun x88 =>
                                                          M.call 26 [vP a0, vI x87] [sU]
                                                            (fun x89 =>
                                                              M.keep
                                                                [({ block := x85, off := 1 : Addr }, [vI x88]), ({ block := a0, off := 5 : Addr }, [Value.pointer x86])]
                                                                (M.call 45 [Value.pointer x86, vU x89.fst, vI x88, vI x6.fst] [sI]
                                                                  (fun x90 =>
                                                                    M.store { block := x85, off := 1 : Addr } [vI x6.fst]
                                                                      (M.load (Shp.agg [Kind.slice]) { block := x1, off := 0 : Addr } fun x91 =>
                                                                        M.call 52 [Value.agg #[Value.slice x91.fst.base x91.fst.len x91.fst.cap], vI x5.fst]
                                                                          [Shp.agg [Kind.slice]]
                                                                          (fun x92 =>
                                                                            M.new 42 [Value.slice none 0 0] fun x93 =>
                                                                              M.store { block := x93, off := 0 : Addr }
                                                                                [Value.slice x92.fst.fst.base x92.fst.fst.len x92.fst.fst.cap]
                                                                                (M.draw
                                                                                  (M.load sS { block := x93, off := 0 : Addr } fun x94 =>
                                                                                    M.load (Shp.agg [kI, kI, Kind.int IntKind.u8]) { block := x85, off := 0 : Addr }
                                                                                      fun x95 =>
                                                                                      M.both
                                                                                        (M.new 49 [] fun x96 =>
                                                                                          M.keep
                                                                                            [({ block := x85, off := 0 : Addr },
                                                                                                [vI x95.fst, vI x95.snd.fst, v8 x95.snd.snd.fst]),
                                                                                              ({ block := x93, off := 0 : Addr }, [Value.slice x94.base x94.len x94.cap])]
                                                                                            (M.both
                                                                                              (M.sem
                                                                                                (Builtin.append_ #[40, 40] 40
                                                                                                  #[Value.slice (some { block := x96, off := 0 : Addr }) 0 0,
                                                                                                    Value.slice x94.base x94.len x94.cap])
                                                                                                sS fun x97 =>
                                                                                                M.keep
                                                                                                  [({ block := x85, off := 0 : Addr },
                                                                                                      [vI x95.fst, vI x95.snd.fst, v8 x95.snd.snd.fst])]
                                                                                                  (M.new 49 [vI x95.fst, vI x95.snd.fst, v8 x95.snd.snd.fst] fun x98 =>
                                                                                                    M.sem
                                                                                                      (Builtin.append_ #[40, 40] 40
                                                                                                        #[Value.slice x97.base x97.len x97.cap,
                                                                                                          Value.slice (some { block := x98, off := 0 : Addr }) 1 1])
                                                                                                      sS fun x99 =>
                                                                                                      M.store { block := x3, off := 0 : Addr }
                                                                                                        [Value.slice x99.base x99.len x99.cap]
                                                                                                        (M.load (Shp.agg [Kind.slice]) { block := x3, off := 0 : Addr }
                                                                                                          fun x100 =>
                                                                                                          ret
                                                                                                            (Value.tuple
                                                                                                              #[Value.agg
                                                                                                                  #[Value.slice x100.fst.base x100.fst.len x100.fst.cap],
                                                                                                                vB (x90.fst == 0)]))))
                                                                                              (M.new 49 [vI x95.fst, vI x95.snd.fst, v8 x95.snd.snd.fst] fun x101 =>
                                                                                                M.keep
                                                                                                  [({ block := x93, off := 0 : Addr },
                                                                                                      [Value.slice x94.base x94.len x94.cap])]
                                                                                                  (M.sem
                                                                                                    (Builtin.append_ #[40, 40] 40
                                                                                                      #[Value.slice (some { block := x96, off := 0 : Addr }) 0 0,
                                                                                                        Value.slice x94.base x94.len x94.cap])
                                                                                                    sS fun x102 =>
                                                                                                    M.sem
                                                                                                      (Builtin.append_ #[40, 40] 40
                                                                                                        #[Value.slice x102.base x102.len x102.cap,
                                                                                                          Value.slice (some { block := x101, off := 0 : Addr }) 1 1])
                                                                                                      sS fun x103 =>
                                                                                                      M.store { block := x3, off := 0 : Addr }
                                                                                                        [Value.slice x103.base x103.len x103.cap]
                                                                                                        (M.load (Shp.agg [Kind.slice]) { block := x3, off := 0 : Addr }
                                                                                                          fun x104 =>
                                                                                                          ret
                                                                                                            (Value.tuple
                                                                                                              #[Value.agg
                                                                                                                  #[Value.slice x104.fst.base x104.fst.len x104.fst.cap],
                                                                                                                vB (x90.fst == 0)]))))))
                                                                                        (M.new 49 [vI x95.fst, vI x95.snd.fst, v8 x95.snd.snd.fst] fun x105 =>
                                                                                          M.keep
                                                                                            [({ block := x93, off := 0 : Addr }, [Value.slice x94.base x94.len x94.cap])]
                                                                                            (M.new 49 [] fun x106 =>
                                                                                              M.keep
                                                                                                [({ block := x93, off := 0 : Addr },
                                                                                                    [Value.slice x94.base x94.len x94.cap])]
                                                                                                (M.sem
                                                                                                  (Builtin.append_ #[40, 40] 40
                                                                                                    #[Value.slice (some { block := x106, off := 0 : Addr }) 0 0,
                                                                                                      Value.slice x94.base x94.len x94.cap])
                                                                                                  sS fun x107 =>
                                                                                                  M.sem
                                                                                                    (Builtin.append_ #[40, 40] 40
                                                                                                      #[Value.slice x107.base x107.len x107.cap,
                                                                                                        Value.slice (some { block := x105, off := 0 : Addr }) 1 1])
                                                                                                    sS fun x108 =>
                                                                                                    M.store { block := x3, off := 0 : Addr }
                                                                                                      [Value.slice x108.base x108.len x108.cap]
                                                                                                      (M.load (Shp.agg [Kind.slice]) { block := x3, off := 0 : Addr }
                                                                                                        fun x109 =>
                                                                                                        ret
                                                                                                          (Value.tuple
                                                                                                            #[Value.agg
                                                                                                                #[Value.slice x109.fst.base x109.fst.len x109.fst.cap],
                                                                                                              vB (x90.fst == 0)]))))))))
                                                                          fun x110 => pan x110))
                                                                  fun x111 => pan x111))
                                                            fun x112 => pan x112))))
                                    fun k113 =>
                                    bif (↑x4.len : Int) == 0 then
                                      M.load (Shp.agg [Kind.slice]) { block := x1, off := 0 : Addr } fun x114 =>
                                        M.store { block := x3, off := 0 : Addr } [Value.slice x114.fst.base x114.fst.len x114.fst.cap]
                                          (M.load (Shp.agg [Kind.slice]) { block := x3, off := 0 : Addr } fun x115 =>
                                            ret (Value.tuple #[Value.agg #[Value.slice x115.fst.base x115.fst.len x115.fst.cap], vB true]))
                                    else
                                      M.load sS { block := x1, off := 0 : Addr } fun x116 =>
                                        M.guard (0 ≤ x5.fst ∧ x5.fst < (↑x116.len : Int))
                                          (dr M.fail x116.base fun x117 =>
                                            M.load sI { block := (x117.add (x5.fst.toNat * 3)).block, off := (x117.add (x5.fst.toNat * 3)).off + 1 : Addr } fun x118 =>
                                              bif decide (x118 < x6.fst) then
                                                M.load (Shp.agg [Kind.slice]) { block := x1, off := 0 : Addr } fun x119 =>
                                                  M.store { block := x3, off := 0 : Addr } [Value.slice x119.fst.base x119.fst.len x119.fst.cap]
                                                    (M.load (Shp.agg [Kind.slice]) { block := x3, off := 0 : Addr } fun x120 =>
                                                      ret (Value.tuple #[Value.agg #[Value.slice x120.fst.base x120.fst.len x120.fst.cap], vB true]))
                                              else k113 (false, ()))
                                else
                                  bif x7 == 6 then
                                    M.draw
                                      (M.load (Shp.agg [Kind.slice]) { block := x1, off := 0 : Addr } fun x121 =>
                                        M.load sP { block := a0, off := 3 : Addr } fun x122 =>
                                          M.load sI { block := a0, off := 1 : Addr } fun x123 =>
                                            M.call 37 [Value.pointer x122] [sI]
                                              (fun x124 =>
                                                M.keep
                                                  [({ block := a0, off := 1 : Addr }, [vI x123]),
                                                    ({ block := x1, off := 0 : Addr }, [Value.slice x121.fst.base x121.fst.len x121.fst.cap])]
                                                  (bif x124.fst == x123 then
                                                    M.store { block := x3, off := 0 : Addr } [Value.slice x121.fst.base x121.fst.len x121.fst.cap]
                                                      (M.load (Shp.agg [Kind.slice]) { block := x3, off := 0 : Addr } fun x125 =>
                                                        ret (Value.tuple #[Value.agg #[Value.slice x125.fst.base x125.fst.len x125.fst.cap], vB true]))
                                                  else
                                                    M.call 22 [vP a0] [sB]
                                                      (fun x126 =>
                                                        M.keep [({ block := x1, off := 0 : Addr }, [Value.slice x121.fst.base x121.fst.len x121.fst.cap])]
                                                          (bif x126.fst then
                                                            M.load sP { block := a0, off := 5 : Addr } fun x127 =>
                                                              M.call 23 [Value.pointer x127] [sI]
                                                                (fun x128 =>
                                                                  M.keep [({ block := x1, off := 0 : Addr }, [Value.slice x121.fst.base x121.fst.len x121.fst.cap])]
                                                                    (M.store { block := x3, off := 0 : Addr } [Value.slice x121.fst.base x121.fst.len x121.fst.cap]
                                                                      (M.load (Shp.agg [Kind.slice]) { block := x3, off := 0 : Addr } fun x129 =>
                                                                        ret
                                                                          (Value.tuple
                                                                            #[Value.agg #[Value.slice x129.fst.base x129.fst.len x129.fst.cap], vB (x128.fst == 0)]))))
                                                                fun x130 => pan x130
                                                          else
                                                            M.store { block := x3, off := 0 : Addr } [Value.slice x121.fst.base x121.fst.len x121.fst.cap]
                                                              (M.load (Shp.agg [Kind.slice]) { block := x3, off := 0 : Addr } fun x131 =>
                                                                ret (Value.tuple #[Value.agg #[Value.slice x131.fst.base x131.fst.len x131.fst.cap], vB false]))))
                                                      fun x132 => pan x132))
                                              fun x133 => pan x133)
                                  else
                                    M.draw
                                      (M.load sI { block := a0, off := 7 : Addr } fun x134 =>
                                        M.load sI { block := a0, off := 2 : Addr } fun x135 =>
                                          M.guard (0 ≤ wU x135)
                                            (M.join [sB]
                                              (fun x136 =>
                                                M.draw
                                                  (M.load (Shp.agg [Kind.slice]) { block := x1, off := 0 : Addr } fun x137 =>
                                                    M.load sP { block := a0, off := 5 : Addr } fun x138 =>
                                                      M.call 46 [Value.pointer x138] [sI]
                                                        (fun x139 =>
                                                          M.keep [({ block := x1, off := 0 : Addr }, [Value.slice x137.fst.base x137.fst.len x137.fst.cap])]
                                                            (bif x139.fst == 0 then
                                                              M.call 84 [vP a0] [sB]
                                                                (fun x140 =>
                                                                  M.keep [({ block := x1, off := 0 : Addr }, [Value.slice x137.fst.base x137.fst.len x137.fst.cap])]
                                                                    (M.store { block := x3, off := 0 : Addr } [Value.slice x137.fst.base x137.fst.len x137.fst.cap]
                                                                      (M.load (Shp.agg [Kind.slice]) { block := x3, off := 0 : Addr } fun x141 =>
                                                                        ret
                                                                          (Value.tuple #[Value.agg #[Value.slice x141.fst.base x141.fst.len x141.fst.cap], vB x140.fst]))))
                                                                fun x142 => pan x142
                                                            else
                                                              M.store { block := x3, off := 0 : Addr } [Value.slice x137.fst.base x137.fst.len x137.fst.cap]
                                                                (M.load (Shp.agg [Kind.slice]) { block := x3, off := 0 : Addr } fun x143 =>
                                                                  ret (Value.tuple #[Value.agg #[Value.slice x143.fst.base x143.fst.len x143.fst.cap], vB false]))))
                                                        fun x144 => pan x144))
                                              fun k145 =>
                                              M.draw
                                                (bif decide (wI (x134 - wI (1 * 2 ^ min (wU x135).toNat 64)) < 0) then
                                                  M.draw
                                                    (M.load (Shp.agg [Kind.slice]) { block := x1, off := 0 : Addr } fun x146 =>
                                                      M.load sP { block := a0, off := 5 : Addr } fun x147 =>
                                                        M.call 46 [Value.pointer x147] [sI]
                                                          (fun x148 =>
                                                            M.keep [({ block := x1, off := 0 : Addr }, [Value.slice x146.fst.base x146.fst.len x146.fst.cap])]
                                                              (M.store { block := x3, off := 0 : Addr } [Value.slice x146.fst.base x146.fst.len x146.fst.cap]
                                                                (M.load (Shp.agg [Kind.slice]) { block := x3, off := 0 : Addr } fun x149 =>
                                                                  ret
                                                                    (Value.tuple #[Value.agg #[Value.slice x149.fst.base x149.fst.len x149.fst.cap], vB (x148.fst == 9)]))))
                                                          fun x150 => pan x150)
                                                else
                                                  M.load (Shp.agg [Kind.slice]) { block := x1, off := 0 : Addr } fun x151 =>
                                                    M.load sI { block := a0, off := 2 : Addr } fun x152 =>
                                                      M.call 83
                                                        [Value.agg #[Value.slice x151.fst.base x151.fst.len x151.fst.cap],
                                                          vI (wI (x134 - wI (1 * 2 ^ min (wU x135).toNat 64))), vI x152]
                                                        [sB]
                                                        (fun x153 =>
                                                          bif x153.fst then
                                                            M.draw
                                                              (M.load (Shp.agg [Kind.slice]) { block := x1, off := 0 : Addr } fun x154 =>
                                                                M.load sP { block := a0, off := 5 : Addr } fun x155 =>
                                                                  M.call 46 [Value.pointer x155] [sI]
                                                                    (fun x156 =>
                                                                      M.keep [({ block := x1, off := 0 : Addr }, [Value.slice x154.fst.base x154.fst.len x154.fst.cap])]
                                                                        (M.store { block := x3, off := 0 : Addr } [Value.slice x154.fst.base x154.fst.len x154.fst.cap]
                                                                          (M.load (Shp.agg [Kind.slice]) { block := x3, off := 0 : Addr } fun x157 =>
                                                                            ret
                                                                              (Value.tuple
                                                                                #[Value.agg #[Value.slice x157.fst.base x157.fst.len x157.fst.cap], vB (x156.fst == 9)]))))
                                                                    fun x158 => pan x158)
                                                          else k145 (false, ()))
                                                        fun x159 => pan x159))))
                            fun k160 => bif x7 == 3 then k160 (x7 == 3, ()) else k160 (x7 == 4, ()))
                      fun k161 => bif x7 == 0 then k161 (x7 == 0, ()) else bif x7 == 1 then k161 (x7 == 1, ()) else k161 (x7 == 2, ()))
                fun k162 =>
                M.load sI { block := x2, off := 1 : Addr } fun x163 =>
                  bif decide (x163 > 0) then
                    M.draw
                      (M.load sI { block := x2, off := 1 : Addr } fun x164 =>
                        M.load sI { block := a0, off := 2 : Addr } fun x165 => M.guard (wI (x165 + 1) ≠ 0) (k162 (x164.tmod (wI (x165 + 1)), ())))
                  else k162 (0, ()))
            fun k166 =>
            bif decide ((↑x4.len : Int) > 0) then
              M.load sI { block := x2, off := 2 : Addr } fun x167 =>
                bif decide (x167 > 0) then M.load sI { block := x2, off := 2 : Addr } fun x168 => M.guard ((↑x4.len : Int) ≠ 0) (k166 (x168.tmod (↑x4.len : Int), ()))
                else k166 (0, ())
            else k166 (0, ())

theorem nf24_eq {T : Type} (M : Prims T) (a0 : Nat) (a1_0 : Sl) (a2_0 : Int) (a2_1 : Int) (a2_2 : Int) (ret : Value → T) (pan : List PanicEntry → T) :
    funcF M Go.Proofs.Try.prog Go.Proofs.Try.f24 [vP a0, Value.agg #[Value.slice a1_0.base a1_0.len a1_0.cap], Value.agg #[vI a2_0, vI a2_1, vI a2_2]] ret pan = nf24 M a0 a1_0 a2_0 a2_1 a2_2 ret pan := by kernel_rfl

-- croft/croftlaw5.BuddyExactly (1045 ms)
noncomputable def nf3 {T : Type} (M : Prims T) (a0_0 : Int) (a0_1 : Int) (a0_2 : Int) (a1 : Sl) (ret : Value → T) (pan : List PanicEntry → T) : T :=
  M.new 24 [vU a0_0, vI a0_1, vI a0_2] fun x1 =>
    M.load (Shp.agg [kU, kI, kI]) { block := x1, off := 0 : Addr } fun x2 =>
      M.call 20 [Value.agg #[vU x2.fst, vI x2.snd.fst, vI x2.snd.snd.fst]] [sP]
        (fun x3 =>
          M.join [sB]
            (fun x4 =>
              M.new 42 [Value.slice none 0 0] fun x5 =>
                M.store { block := x5, off := 0 : Addr } [Value.slice none 0 0]
                  (M.join [sB, sI] (fun x6 => ret (vB true)) fun k7 =>
                    M.loop [sB, sI] (x4.fst, 0, ()) fun k8 x9 =>
                      M.join []
                        (fun x10 =>
                          M.draw
                            (M.load (Shp.agg [Kind.slice]) { block := x5, off := 0 : Addr } fun x11 =>
                              M.guard (0 ≤ x9.snd.fst ∧ x9.snd.fst < (↑a1.len : Int))
                                (dr M.fail a1.base fun x12 =>
                                  M.load (Shp.agg [kI, kI, kI]) (x12.add (x9.snd.fst.toNat * 3)) fun x13 =>
                                    M.both
                                      (M.call 24
                                        [Value.pointer x3.fst, Value.agg #[Value.slice x11.fst.base x11.fst.len x11.fst.cap],
                                          Value.agg #[vI x13.fst, vI x13.snd.fst, vI x13.snd.snd.fst]]
                                        [Shp.agg [Kind.slice], sB]
                                        (fun x14 =>
                                          M.new 42 [Value.slice none 0 0] fun x15 =>
                                            M.store { block := x15, off := 0 : Addr } [Value.slice x14.fst.fst.base x14.fst.fst.len x14.fst.fst.cap]
                                              (bif !x14.snd.fst then ret (vB false)
                                              else
                                                M.load (Shp.agg [Kind.slice]) { block := x15, off := 0 : Addr } fun x16 =>
                                                  M.store { block := x5, off := 0 : Addr } [Value.slice x16.fst.base x16.fst.len x16.fst.cap]
                                                    (k8 (x9.fst, wI (x9.snd.fst + 1), ()))))
                                        fun x17 => pan x17)
                                      (M.new 42 [Value.slice none 0 0] fun x18 =>
                                        M.keep
                                          [(x12.add (x9.snd.fst.toNat * 3), [vI x13.fst, vI x13.snd.fst, vI x13.snd.snd.fst]),
                                            ({ block := x5, off := 0 : Addr }, [Value.slice x11.fst.base x11.fst.len x11.fst.cap])]
                                          (M.call 24
                                            [Value.pointer x3.fst, Value.agg #[Value.slice x11.fst.base x11.fst.len x11.fst.cap],
                                              Value.agg #[vI x13.fst, vI x13.snd.fst, vI x13.snd.snd.fst]]
                                            [Shp.agg [Kind.slice], sB]
                                            (fun x19 =>
                                              M.store { block := x18, off := 0 : Addr } [Value.slice x19.fst.fst.base x19.fst.fst.len x19.fst.fst.cap]
                                                (bif !x19.snd.fst then ret (vB false)
                                                else
                                                  M.load (Shp.agg [Kind.slice]) { block := x18, off := 0 : Addr } fun x20 =>
                                                    M.store { block := x5, off := 0 : Addr } [Value.slice x20.fst.base x20.fst.len x20.fst.cap]
                                                      (k8 (x9.fst, wI (x9.snd.fst + 1), ()))))
                                            fun x21 => pan x21)))))
                        fun k22 =>
                        bif decide (x9.snd.fst < (↑a1.len : Int)) then bif decide (x9.snd.fst < 300) then k22 () else k7 (x9.fst, x9.snd.fst, ())
                        else k7 (x9.fst, x9.snd.fst, ())))
            fun k23 =>
            M.sem (eqV 26 (Value.pointer x3.fst) (Value.pointer none)) sB fun x24 =>
              bif x24 then ret (vB false)
              else
                M.call 21 [] [sB]
                  (fun x25 =>
                    bif !x25.fst then ret (vB false)
                    else
                      M.call 22 [Value.pointer x3.fst] [sB]
                        (fun x26 =>
                          bif !x26.fst then ret (vB false)
                          else
                            dr M.fail x3.fst fun x27 =>
                              M.load sP { block := x27.block, off := x27.off + 5 : Addr } fun x28 =>
                                M.call 23 [Value.pointer x28] [sI] (fun x29 => bif x29.fst != 0 then ret (vB false) else k23 (false, ())) fun x30 => pan x30)
                        fun x31 => pan x31)
                  fun x32 => pan x32)
        fun x33 => pan x33

theorem nf3_eq {T : Type} (M : Prims T) (a0_0 : Int) (a0_1 : Int) (a0_2 : Int) (a1 : Sl) (ret : Value → T) (pan : List PanicEntry → T) :
    funcF M Go.Proofs.Try.prog Go.Proofs.Try.f3 [Value.agg #[vU a0_0, vI a0_1, vI a0_2], Value.slice a1.base a1.len a1.cap] ret pan = nf3 M a0_0 a0_1 a0_2 a1 ret pan := by kernel_rfl

end Go.Proofs.Ytdmfnlcbfmahhaa
