import Derived.Test.YtdmfnlcbfmahhaaHlDefer
import Derived.Test.YtdmfnlcbfmahhaaHlGoto
import Derived.Test.YtdmfnlcbfmahhaaProg
import Derived.KernelRfl
namespace Go.Proofs.Ytdmfnlcbfmahhaa
open Go Hl
set_option maxRecDepth 100000
-- 29 croft/region.Open (1370 ms)
noncomputable def nf29 {T : Type} (M : Prims T) (a0_0 : Int) (a0_1 : Int) (a0_2 : Int) (a1 : Int) (a2 : Sl) (a3 : Sl) (a4 : Sl) (a5 : Sl) (ret : Value → T) (pan : List PanicEntry → T) : T :=
  M.new 24 [vU a0_0, vI a0_1, vI a0_2] fun x1 =>
    M.load (Shp.agg [kU, kI, kI]) { block := x1, off := 0 : Addr } fun x2 =>
      M.call 73 [Value.agg #[vU x2.fst, vI x2.snd.fst, vI x2.snd.snd.fst]] [sP, sI]
        (fun x3 =>
          bif x3.snd.fst != 0 then ret (Value.tuple #[Value.pointer none, vI x3.snd.fst])
          else
            M.join [sP, sI]
              (fun x4 =>
                M.load sI { block := x1, off := 2 : Addr } fun x5 =>
                  M.call 89 [vI x5, Value.slice a3.base a3.len a3.cap, Value.slice a4.base a4.len a4.cap] [sP, sI]
                    (fun x6 =>
                      bif x6.snd.fst != 0 then ret (Value.tuple #[Value.pointer none, vI x6.snd.fst])
                      else
                        M.loop [sI] (0, ()) fun k7 x8 =>
                          bif decide (x8.fst < a1) then M.call 55 [Value.pointer x3.fst, vB false] [sU, sI] (fun x9 => k7 (wI (x8.fst + 1), ())) fun x10 => pan x10
                          else
                            M.load sU { block := x1, off := 0 : Addr } fun x11 =>
                              M.call 62 [Value.pointer x3.fst, vU x11, Value.slice a2.base a2.len a2.cap] [sI]
                                (fun x12 =>
                                  M.load (Shp.agg [kU, kI, kI]) { block := x1, off := 0 : Addr } fun x13 =>
                                    M.call 77
                                      [Value.agg #[vU x13.fst, vI x13.snd.fst, vI x13.snd.snd.fst], Value.pointer x3.fst, Value.pointer x6.fst,
                                        Value.slice a5.base a5.len a5.cap]
                                      [sP, sI]
                                      (fun x14 =>
                                        bif x14.snd.fst != 0 then ret (Value.tuple #[Value.pointer none, vI x14.snd.fst])
                                        else M.new 73 [Value.pointer x3.fst, Value.pointer x6.fst, Value.pointer x14.fst] fun x15 => ret (Value.tuple #[vP x15, vI 0]))
                                      fun x16 => pan x16)
                                fun x17 => pan x17)
                    fun x18 => pan x18)
              fun k19 =>
              bif decide (a1 < 0) then ret (Value.tuple #[Value.pointer none, vI 7])
              else
                M.load sI { block := x1, off := 1 : Addr } fun x20 =>
                  bif decide (a1 > x20) then ret (Value.tuple #[Value.pointer none, vI 7])
                  else
                    M.load sI { block := x1, off := 2 : Addr } fun x21 =>
                      M.guard (0 ≤ x21)
                        (bif (↑a2.len : Int) != wI (wI (a1 * 4096) * 2 ^ min x21.toNat 64) then ret (Value.tuple #[Value.pointer none, vI 7])
                        else
                          M.load sI { block := x1, off := 2 : Addr } fun x22 =>
                            M.guard (0 ≤ x22)
                              (bif (↑a3.len : Int) != wI (a1 * 2 ^ min x22.toNat 64) then ret (Value.tuple #[Value.pointer none, vI 7]) else k19 (none, 0, ()))))
        fun x23 => pan x23

theorem nf29_eq {T : Type} (M : Prims T) (a0_0 : Int) (a0_1 : Int) (a0_2 : Int) (a1 : Int) (a2 : Sl) (a3 : Sl) (a4 : Sl) (a5 : Sl) (ret : Value → T) (pan : List PanicEntry → T) :
    funcF M Go.Proofs.Try.prog Go.Proofs.Try.f29 [Value.agg #[vU a0_0, vI a0_1, vI a0_2], vI a1, Value.slice a2.base a2.len a2.cap, Value.slice a3.base a3.len a3.cap, Value.slice a4.base a4.len a4.cap, Value.slice a5.base a5.len a5.cap] ret pan = nf29 M a0_0 a0_1 a0_2 a1 a2 a3 a4 a5 ret pan := by kernel_rfl

-- 33 croft/region.New (568 ms)
noncomputable def nf33 {T : Type} (M : Prims T) (a0_0 : Int) (a0_1 : Int) (a0_2 : Int) (ret : Value → T) (pan : List PanicEntry → T) : T :=
  M.new 24 [vU a0_0, vI a0_1, vI a0_2] fun x1 =>
    M.load (Shp.agg [kU, kI, kI]) { block := x1, off := 0 : Addr } fun x2 =>
      M.call 73 [Value.agg #[vU x2.fst, vI x2.snd.fst, vI x2.snd.snd.fst]] [sP, sI]
        (fun x3 =>
          bif x3.snd.fst != 0 then ret (Value.tuple #[Value.pointer none, vI x3.snd.fst])
          else
            M.load sI { block := x1, off := 2 : Addr } fun x4 =>
              M.call 74 [vI x4] [sP]
                (fun x5 =>
                  M.load (Shp.agg [kU, kI, kI]) { block := x1, off := 0 : Addr } fun x6 =>
                    M.call 75 [Value.agg #[vU x6.fst, vI x6.snd.fst, vI x6.snd.snd.fst], Value.pointer x3.fst, Value.pointer x5.fst] [sP]
                      (fun x7 => M.new 73 [Value.pointer x3.fst, Value.pointer x5.fst, Value.pointer x7.fst] fun x8 => ret (Value.tuple #[vP x8, vI 0])) fun x9 => pan x9)
                fun x10 => pan x10)
        fun x11 => pan x11

theorem nf33_eq {T : Type} (M : Prims T) (a0_0 : Int) (a0_1 : Int) (a0_2 : Int) (ret : Value → T) (pan : List PanicEntry → T) :
    funcF M Go.Proofs.Try.prog Go.Proofs.Try.f33 [Value.agg #[vU a0_0, vI a0_1, vI a0_2]] ret pan = nf33 M a0_0 a0_1 a0_2 ret pan := by kernel_rfl

-- 34 (*croft/region.ground).Space (75 ms)
noncomputable def nf34 {T : Type} (M : Prims T) (a0 : Nat) (ret : Value → T) (pan : List PanicEntry → T) : T :=
  M.load sP { block := a0, off := 0 : Addr } fun x1 => ret (Value.pointer x1)

theorem nf34_eq {T : Type} (M : Prims T) (a0 : Nat) (ret : Value → T) (pan : List PanicEntry → T) :
    funcF M Go.Proofs.Try.prog Go.Proofs.Try.f34 [vP a0] ret pan = nf34 M a0 ret pan := by kernel_rfl

-- 35 (*croft/region.ground).Map (64 ms)
noncomputable def nf35 {T : Type} (M : Prims T) (a0 : Nat) (ret : Value → T) (pan : List PanicEntry → T) : T :=
  M.load sP { block := a0, off := 1 : Addr } fun x1 => ret (Value.pointer x1)

theorem nf35_eq {T : Type} (M : Prims T) (a0 : Nat) (ret : Value → T) (pan : List PanicEntry → T) :
    funcF M Go.Proofs.Try.prog Go.Proofs.Try.f35 [vP a0] ret pan = nf35 M a0 ret pan := by kernel_rfl

-- 36 (*croft/region.ground).Buddy (59 ms)
noncomputable def nf36 {T : Type} (M : Prims T) (a0 : Nat) (ret : Value → T) (pan : List PanicEntry → T) : T :=
  M.load sP { block := a0, off := 2 : Addr } fun x1 => ret (Value.pointer x1)

theorem nf36_eq {T : Type} (M : Prims T) (a0 : Nat) (ret : Value → T) (pan : List PanicEntry → T) :
    funcF M Go.Proofs.Try.prog Go.Proofs.Try.f36 [vP a0] ret pan = nf36 M a0 ret pan := by kernel_rfl

-- 38 (*croft/region.Pool).Need (918 ms)
noncomputable def nf38 {T : Type} (M : Prims T) (a0 : Nat) (a1 : Int) (a2 : Bool) (ret : Value → T) (pan : List PanicEntry → T) : T :=
  M.load sP { block := a0, off := 2 : Addr } fun x1 =>
    M.call 41 [Value.pointer x1, vI a1] [sU, sI]
      (fun x2 =>
        bif x2.snd.fst != 2 then ret (Value.tuple #[vU x2.fst, vB false, vI x2.snd.fst])
        else
          M.load sP { block := a0, off := 0 : Addr } fun x3 =>
            M.call 55 [Value.pointer x3, vB a2] [sU, sI]
              (fun x4 =>
                bif x4.snd.fst != 0 then ret (Value.tuple #[vU 0, vB false, vI x4.snd.fst])
                else
                  M.load sP { block := a0, off := 1 : Addr } fun x5 =>
                    M.call 53 [Value.pointer x5] []
                      (fun x6 =>
                        M.load sP { block := a0, off := 2 : Addr } fun x7 =>
                          M.call 23 [Value.pointer x7] [sI]
                            (fun x8 =>
                              M.load sP { block := a0, off := 2 : Addr } fun x9 =>
                                M.call 41 [Value.pointer x9, vI a1] [sU, sI] (fun x10 => ret (Value.tuple #[vU x10.fst, vB (x10.snd.fst == 0), vI x10.snd.fst])) fun x11 =>
                                  pan x11)
                            fun x12 => pan x12)
                      fun x13 => pan x13)
              fun x14 => pan x14)
      fun x15 => pan x15

theorem nf38_eq {T : Type} (M : Prims T) (a0 : Nat) (a1 : Int) (a2 : Bool) (ret : Value → T) (pan : List PanicEntry → T) :
    funcF M Go.Proofs.Try.prog Go.Proofs.Try.f38 [vP a0, vI a1, vB a2] ret pan = nf38 M a0 a1 a2 ret pan := by kernel_rfl

-- 58 (*croft/region.Pool).Trim (533 ms)
noncomputable def nf58 {T : Type} (M : Prims T) (a0 : Nat) (ret : Value → T) (pan : List PanicEntry → T) : T :=
  M.loop [sI] (0, ()) fun k1 x2 =>
    M.load sP { block := a0, off := 2 : Addr } fun x3 =>
      M.call 46 [Value.pointer x3] [sI]
        (fun x4 =>
          bif x4.fst == 0 then
            M.load sP { block := a0, off := 1 : Addr } fun x5 =>
              M.call 54 [Value.pointer x5, vI 1] [sI]
                (fun x6 =>
                  M.load sP { block := a0, off := 0 : Addr } fun x7 => M.call 56 [Value.pointer x7, vI 1] [sI] (fun x8 => k1 (wI (x2.fst + 1), ())) fun x9 => pan x9)
                fun x10 => pan x10
          else ret (vI x2.fst))
        fun x11 => pan x11

theorem nf58_eq {T : Type} (M : Prims T) (a0 : Nat) (ret : Value → T) (pan : List PanicEntry → T) :
    funcF M Go.Proofs.Try.prog Go.Proofs.Try.f58 [vP a0] ret pan = nf58 M a0 ret pan := by kernel_rfl

-- 65 (*croft/region.Pool).Give (104 ms)
noncomputable def nf65 {T : Type} (M : Prims T) (a0 : Nat) (a1 : Int) (a2 : Int) (ret : Value → T) (pan : List PanicEntry → T) : T :=
  M.load sP { block := a0, off := 2 : Addr } fun x1 => M.call 42 [Value.pointer x1, vU a1, vI a2] [sI] (fun x2 => ret (vI x2.fst)) fun x3 => pan x3

theorem nf65_eq {T : Type} (M : Prims T) (a0 : Nat) (a1 : Int) (a2 : Int) (ret : Value → T) (pan : List PanicEntry → T) :
    funcF M Go.Proofs.Try.prog Go.Proofs.Try.f65 [vP a0, vU a1, vI a2] ret pan = nf65 M a0 a1 a2 ret pan := by kernel_rfl

-- 28 croft/croftlaw6.awake (1806 ms)
noncomputable def nf28 {T : Type} (M : Prims T) (ret : Value → T) (pan : List PanicEntry → T) : T :=
  M.new 24 [vU 0, vI 0, vI 0] fun x1 =>
    M.store { block := x1, off := 0 : Addr } [vU 65536, vI 2, vI 1]
      (M.load (Shp.agg [kU, kI, kI]) { block := x1, off := 0 : Addr } fun x2 =>
        M.call 33 [Value.agg #[vU x2.fst, vI x2.snd.fst, vI x2.snd.snd.fst]] [sP, sI]
          (fun x3 =>
            M.join [sB]
              (fun x4 =>
                M.load (Shp.agg [kU, kI, kI]) { block := x1, off := 0 : Addr } fun x5 =>
                  M.new 59 [Value.slice none 0 0] fun x6 =>
                    M.new 22 [vU 0, vU 0] fun x7 =>
                      M.call 29
                        [Value.agg #[vU x5.fst, vI x5.snd.fst, vI x5.snd.snd.fst], vI 0, Value.slice none 0 0, Value.slice none 0 0,
                          Value.slice (some { block := x6, off := 0 : Addr }) 1 1, Value.slice (some { block := x7, off := 0 : Addr }) 2 2]
                        [sP, sI]
                        (fun x8 =>
                          M.join [sB]
                            (fun x9 =>
                              M.call 38 [Value.pointer x3.fst, vI 0, vB false] [sU, sB, sI]
                                (fun x10 =>
                                  bif x10.snd.snd.fst == 0 then
                                    bif x10.snd.fst then
                                      bif x10.fst == 65536 then
                                        dr M.fail x3.fst fun x11 =>
                                          M.call 34 [Value.pointer (some (x11.add 0))] [sP]
                                            (fun x12 => M.call 37 [Value.pointer x12.fst] [sI] (fun x13 => ret (vB (x13.fst == 1))) fun x14 => pan x14) fun x15 => pan x15
                                      else ret (vB false)
                                    else ret (vB false)
                                  else ret (vB false))
                                fun x16 => pan x16)
                            fun k17 =>
                            bif x8.snd.fst != 0 then ret (vB false)
                            else M.sem (eqV 60 (Value.pointer x8.fst) (Value.pointer none)) sB fun x18 => bif x18 then ret (vB false) else k17 (x4.fst, ()))
                        fun x19 => pan x19)
              fun k20 =>
              bif x3.snd.fst != 0 then ret (vB false)
              else
                M.sem (eqV 60 (Value.pointer x3.fst) (Value.pointer none)) sB fun x21 =>
                  bif x21 then ret (vB false)
                  else
                    dr M.fail x3.fst fun x22 =>
                      M.call 34 [Value.pointer (some (x22.add 0))] [sP]
                        (fun x23 =>
                          M.sem (eqV 30 (Value.pointer x23.fst) (Value.pointer none)) sB fun x24 =>
                            bif x24 then ret (vB false)
                            else
                              dr M.fail x3.fst fun x25 =>
                                M.call 35 [Value.pointer (some (x25.add 0))] [sP]
                                  (fun x26 =>
                                    M.sem (eqV 31 (Value.pointer x26.fst) (Value.pointer none)) sB fun x27 =>
                                      bif x27 then ret (vB false)
                                      else
                                        dr M.fail x3.fst fun x28 =>
                                          M.call 36 [Value.pointer (some (x28.add 0))] [sP]
                                            (fun x29 =>
                                              M.sem (eqV 32 (Value.pointer x29.fst) (Value.pointer none)) sB fun x30 => bif x30 then ret (vB false) else k20 (false, ()))
                                            fun x31 => pan x31)
                                  fun x32 => pan x32)
                        fun x33 => pan x33)
          fun x34 => pan x34)

theorem nf28_eq {T : Type} (M : Prims T) (ret : Value → T) (pan : List PanicEntry → T) :
    funcF M Go.Proofs.Try.prog Go.Proofs.Try.f28 [] ret pan = nf28 M  ret pan := by kernel_rfl

-- croft/croftlaw6.RegionOpens (3653 ms)
noncomputable def nf5 {T : Type} (M : Prims T) (a0_0 : Int) (a0_1 : Int) (a0_2 : Int) (a1 : Int) (a2 : Int) (a3 : Int) (a4 : Int) (a5 : Int) (ret : Value → T) (pan : List PanicEntry → T) : T :=
  M.new 24 [vU a0_0, vI a0_1, vI a0_2] fun x1 =>
    M.call 28 [] [sB]
      (fun x2 =>
        bif !x2.fst then ret (vB false)
        else
          M.join [sS, sI]
            (fun x3 =>
              M.join [sS, sI]
                (fun x4 =>
                  M.join [sS, sI]
                    (fun x5 =>
                      M.join [sI]
                        (fun x6 =>
                          M.join [sI]
                            (fun x7 =>
                              M.draw
                                (M.load (Shp.agg [kU, kI, kI]) { block := x1, off := 0 : Addr } fun x8 =>
                                  M.both
                                    (M.sem (Instr.makeSlice 63 (vI x7.fst) (vI x7.fst)) sS fun x9 =>
                                      M.keep [({ block := x1, off := 0 : Addr }, [vU x8.fst, vI x8.snd.fst, vI x8.snd.snd.fst])]
                                        (M.sem (Instr.makeSlice 59 (vI x6.fst) (vI x6.fst)) sS fun x10 =>
                                          M.keep [({ block := x1, off := 0 : Addr }, [vU x8.fst, vI x8.snd.fst, vI x8.snd.snd.fst])]
                                            (M.call 29
                                              [Value.agg #[vU x8.fst, vI x8.snd.fst, vI x8.snd.snd.fst], vI a1, Value.slice x9.base x9.len x9.cap,
                                                Value.slice x3.fst.base x3.fst.len x3.fst.cap, Value.slice x5.fst.base x5.fst.len x5.fst.cap,
                                                Value.slice x10.base x10.len x10.cap]
                                              [sP, sI]
                                              (fun x11 =>
                                                M.load (Shp.agg [kU, kI, kI]) { block := x1, off := 0 : Addr } fun x12 =>
                                                  M.call 30 [Value.agg #[vU x12.fst, vI x12.snd.fst, vI x12.snd.snd.fst]] [sB]
                                                    (fun x13 =>
                                                      bif !x13.fst then ret (vB (x11.snd.fst == 1))
                                                      else
                                                        bif decide (a1 ≥ 0) then
                                                          M.load sI { block := x1, off := 1 : Addr } fun x14 =>
                                                            bif decide (a1 ≤ x14) then
                                                              M.load (Shp.agg [kU, kI, kI]) { block := x1, off := 0 : Addr } fun x15 =>
                                                                M.call 31 [Value.agg #[vU x15.fst, vI x15.snd.fst, vI x15.snd.snd.fst]] [sU]
                                                                  (fun x16 =>
                                                                    bif wU x7.fst == wU (wU a1 * x16.fst) then
                                                                      M.load sI { block := x1, off := 2 : Addr } fun x17 =>
                                                                        M.call 32 [vI x17] [sI]
                                                                          (fun x18 =>
                                                                            bif (↑x3.fst.len : Int) == wI (a1 * x18.fst) then
                                                                              M.load sI { block := x1, off := 2 : Addr } fun x19 =>
                                                                                bif (↑x5.fst.len : Int) == x19 then
                                                                                  M.load sI { block := x1, off := 2 : Addr } fun x20 =>
                                                                                    bif x6.fst == wI (x20 + 1) then ret (vB (x11.snd.fst == 0))
                                                                                    else ret (vB (x11.snd.fst == 7))
                                                                                else ret (vB (x11.snd.fst == 7))
                                                                            else ret (vB (x11.snd.fst == 7)))
                                                                          fun x21 => pan x21
                                                                    else ret (vB (x11.snd.fst == 7)))
                                                                  fun x22 => pan x22
                                                            else ret (vB (x11.snd.fst == 7))
                                                        else ret (vB (x11.snd.fst == 7)))
                                                    fun x23 => pan x23)
                                              fun x24 => pan x24)))
                                    (M.sem (Instr.makeSlice 59 (vI x6.fst) (vI x6.fst)) sS fun x25 =>
                                      M.keep [({ block := x1, off := 0 : Addr }, [vU x8.fst, vI x8.snd.fst, vI x8.snd.snd.fst])]
                                        (M.sem (Instr.makeSlice 63 (vI x7.fst) (vI x7.fst)) sS fun x26 =>
                                          M.keep [({ block := x1, off := 0 : Addr }, [vU x8.fst, vI x8.snd.fst, vI x8.snd.snd.fst])]
                                            (M.call 29
                                              [Value.agg #[vU x8.fst, vI x8.snd.fst, vI x8.snd.snd.fst], vI a1, Value.slice x26.base x26.len x26.cap,
                                                Value.slice x3.fst.base x3.fst.len x3.fst.cap, Value.slice x5.fst.base x5.fst.len x5.fst.cap,
                                                Value.slice x25.base x25.len x25.cap]
                                              [sP, sI]
                                              (fun x27 =>
                                                M.load (Shp.agg [kU, kI, kI]) { block := x1, off := 0 : Addr } fun x28 =>
                                                  M.call 30 [Value.agg #[vU x28.fst, vI x28.snd.fst, vI x28.snd.snd.fst]] [sB]
                                                    (fun x29 =>
                                                      bif !x29.fst then ret (vB (x27.snd.fst == 1))
                                                      else
                                                        bif decide (a1 ≥ 0) then
                                                          M.load sI { block := x1, off := 1 : Addr } fun x30 =>
                                                            bif decide (a1 ≤ x30) then
                                                              M.load (Shp.agg [kU, kI, kI]) { block := x1, off := 0 : Addr } fun x31 =>
                                                                M.call 31 [Value.agg #[vU x31.fst, vI x31.snd.fst, vI x31.snd.snd.fst]] [sU]
                                                                  (fun x32 =>
                                                                    bif wU x7.fst == wU (wU a1 * x32.fst) then
                                                                      M.load sI { block := x1, off := 2 : Addr } fun x33 =>
                                                                        M.call 32 [vI x33] [sI]
                                                                          (fun x34 =>
                                                                            bif (↑x3.fst.len : Int) == wI (a1 * x34.fst) then
                                                                              M.load sI { block := x1, off := 2 : Addr } fun x35 =>
                                                                                bif (↑x5.fst.len : Int) == x35 then
                                                                                  M.load sI { block := x1, off := 2 : Addr } fun x36 =>
                                                                                    bif x6.fst == wI (x36 + 1) then ret (vB (x27.snd.fst == 0))
                                                                                    else ret (vB (x27.snd.fst == 7))
                                                                                else ret (vB (x27.snd.fst == 7))
                                                                            else ret (vB (x27.snd.fst == 7)))
                                                                          fun x37 => pan x37
                                                                    else ret (vB (x27.snd.fst == 7)))
                                                                  fun x38 => pan x38
                                                            else ret (vB (x27.snd.fst == 7))
                                                        else ret (vB (x27.snd.fst == 7)))
                                                    fun x39 => pan x39)
                                              fun x40 => pan x40)))))
                            fun k41 => bif decide (a2 < 0) then k41 (0, ()) else bif decide (a2 > 4194304) then k41 (0, ()) else k41 (a2, ()))
                        fun k42 => bif decide (a5 < 0) then k42 (0, ()) else bif decide (a5 > 100) then k42 (0, ()) else k42 (a5, ()))
                    fun k43 =>
                    M.loop [sS, sI] ({ base := x4.fst.base, len := x4.fst.len, cap := x4.fst.cap : Sl }, 0, ()) fun k44 x45 =>
                      M.join []
                        (fun x46 =>
                          M.new 59 [Value.slice none 0 0] fun x47 =>
                            M.sem
                              (Builtin.append_ #[58, 58] 58 #[Value.slice x45.fst.base x45.fst.len x45.fst.cap, Value.slice (some { block := x47, off := 0 : Addr }) 1 1])
                              sS fun x48 => k44 ({ base := x48.base, len := x48.len, cap := x48.cap : Sl }, wI (x45.snd.fst + 1), ()))
                        fun k49 =>
                        bif decide (x45.snd.fst < a4) then
                          bif decide (x45.snd.fst < 5) then k49 () else k43 ({ base := x45.fst.base, len := x45.fst.len, cap := x45.fst.cap : Sl }, x45.snd.fst, ())
                        else k43 ({ base := x45.fst.base, len := x45.fst.len, cap := x45.fst.cap : Sl }, x45.snd.fst, ()))
                fun k50 =>
                M.loop [sS, sI] ({ base := none, len := 0, cap := 0 : Sl }, 0, ()) fun k51 x52 =>
                  M.join []
                    (fun x53 =>
                      M.guard (0 ≤ wI (x52.snd.fst + 1))
                        (M.sem
                          (Instr.makeSlice 59 (vI (wI ((wI ((↑x3.fst.len : Int).fdiv (2 ^ min (wI (x52.snd.fst + 1)).toNat 64) + 63)).tdiv 64)))
                            (vI (wI ((wI ((↑x3.fst.len : Int).fdiv (2 ^ min (wI (x52.snd.fst + 1)).toNat 64) + 63)).tdiv 64))))
                          sS fun x54 =>
                          M.new 59 [Value.slice x54.base x54.len x54.cap] fun x55 =>
                            M.sem
                              (Builtin.append_ #[58, 58] 58 #[Value.slice x52.fst.base x52.fst.len x52.fst.cap, Value.slice (some { block := x55, off := 0 : Addr }) 1 1])
                              sS fun x56 => k51 ({ base := x56.base, len := x56.len, cap := x56.cap : Sl }, wI (x52.snd.fst + 1), ())))
                    fun k57 =>
                    M.load sI { block := x1, off := 2 : Addr } fun x58 =>
                      bif decide (x52.snd.fst < x58) then
                        bif decide (x52.snd.fst < 9) then k57 () else k50 ({ base := x52.fst.base, len := x52.fst.len, cap := x52.fst.cap : Sl }, x52.snd.fst, ())
                      else k50 ({ base := x52.fst.base, len := x52.fst.len, cap := x52.fst.cap : Sl }, x52.snd.fst, ()))
            fun k59 =>
            M.loop [sS, sI] ({ base := none, len := 0, cap := 0 : Sl }, 0, ()) fun k60 x61 =>
              M.join []
                (fun x62 =>
                  M.new 57 [vI 0, vI 0, vI 0, vI 0, vI 0, vI 0, vI 0, vU 0, vU 0, vU 0, vU 0] fun x63 =>
                    M.store { block := x63, off := 0 : Addr } [vI 2]
                      (M.store { block := x63, off := 4 : Addr } [vI (-1)]
                        (M.store { block := x63, off := 5 : Addr } [vI (-1)]
                          (M.store { block := x63, off := 6 : Addr } [vI (-1)]
                            (M.load (Shp.agg [kI, kI, kI, kI, kI, kI, kI, kU, kU, kU, kU]) { block := x63, off := 0 : Addr } fun x64 =>
                              M.new 57
                                [vI x64.fst, vI x64.snd.fst, vI x64.snd.snd.fst, vI x64.snd.snd.snd.fst, vI x64.snd.snd.snd.snd.fst, vI x64.snd.snd.snd.snd.snd.fst,
                                  vI x64.snd.snd.snd.snd.snd.snd.fst, vU x64.snd.snd.snd.snd.snd.snd.snd.fst, vU x64.snd.snd.snd.snd.snd.snd.snd.snd.fst,
                                  vU x64.snd.snd.snd.snd.snd.snd.snd.snd.snd.fst, vU x64.snd.snd.snd.snd.snd.snd.snd.snd.snd.snd.fst]
                                fun x65 =>
                                M.sem
                                  (Builtin.append_ #[54, 54] 54
                                    #[Value.slice x61.fst.base x61.fst.len x61.fst.cap, Value.slice (some { block := x65, off := 0 : Addr }) 1 1])
                                  sS fun x66 => k60 ({ base := x66.base, len := x66.len, cap := x66.cap : Sl }, wI (x61.snd.fst + 1), ()))))))
                fun k67 =>
                bif decide (x61.snd.fst < a3) then
                  bif decide (x61.snd.fst < 2000) then k67 () else k59 ({ base := x61.fst.base, len := x61.fst.len, cap := x61.fst.cap : Sl }, x61.snd.fst, ())
                else k59 ({ base := x61.fst.base, len := x61.fst.len, cap := x61.fst.cap : Sl }, x61.snd.fst, ()))
      fun x68 => pan x68

theorem nf5_eq {T : Type} (M : Prims T) (a0_0 : Int) (a0_1 : Int) (a0_2 : Int) (a1 : Int) (a2 : Int) (a3 : Int) (a4 : Int) (a5 : Int) (ret : Value → T) (pan : List PanicEntry → T) :
    funcF M Go.Proofs.Try.prog Go.Proofs.Try.f5 [Value.agg #[vU a0_0, vI a0_1, vI a0_2], vI a1, vI a2, vI a3, vI a4, vI a5] ret pan = nf5 M a0_0 a0_1 a0_2 a1 a2 a3 a4 a5 ret pan := by kernel_rfl

-- 31 croft/croftref2.R (98 ms)
noncomputable def nf31 {T : Type} (M : Prims T) (a0_0 : Int) (a0_1 : Int) (a0_2 : Int) (ret : Value → T) (pan : List PanicEntry → T) : T :=
  M.new 24 [vU a0_0, vI a0_1, vI a0_2] fun x1 =>
    M.loop [sU, sI] (4096, 0, ()) fun k2 x3 =>
      M.load sI { block := x1, off := 2 : Addr } fun x4 => bif decide (x3.snd.fst < x4) then k2 (wU (x3.fst * 2), wI (x3.snd.fst + 1), ()) else ret (vU x3.fst)

theorem nf31_eq {T : Type} (M : Prims T) (a0_0 : Int) (a0_1 : Int) (a0_2 : Int) (ret : Value → T) (pan : List PanicEntry → T) :
    funcF M Go.Proofs.Try.prog Go.Proofs.Try.f31 [Value.agg #[vU a0_0, vI a0_1, vI a0_2]] ret pan = nf31 M a0_0 a0_1 a0_2 ret pan := by kernel_rfl

-- 32 croft/croftref6.Power (57 ms)
noncomputable def nf32 {T : Type} (M : Prims T) (a0 : Int) (ret : Value → T) (pan : List PanicEntry → T) : T :=
  M.loop [sI, sI] (1, 0, ()) fun k1 x2 => bif decide (x2.snd.fst < a0) then k1 (wI (x2.fst * 2), wI (x2.snd.fst + 1), ()) else ret (vI x2.fst)

theorem nf32_eq {T : Type} (M : Prims T) (a0 : Int) (ret : Value → T) (pan : List PanicEntry → T) :
    funcF M Go.Proofs.Try.prog Go.Proofs.Try.f32 [vI a0] ret pan = nf32 M a0 ret pan := by kernel_rfl

-- croft/croftlaw6.RegionSame (4623 ms)
noncomputable def nf6 {T : Type} (M : Prims T) (a0_0 : Int) (a0_1 : Int) (a0_2 : Int) (ret : Value → T) (pan : List PanicEntry → T) : T :=
  M.new 24 [vU a0_0, vI a0_1, vI a0_2] fun x1 =>
    M.call 28 [] [sB]
      (fun x2 =>
        bif !x2.fst then ret (vB false)
        else
          M.load (Shp.agg [kU, kI, kI]) { block := x1, off := 0 : Addr } fun x3 =>
            M.call 33 [Value.agg #[vU x3.fst, vI x3.snd.fst, vI x3.snd.snd.fst]] [sP, sI]
              (fun x4 =>
                bif x4.snd.fst == 1 then ret (vB true)
                else
                  dr M.fail x4.fst fun x5 =>
                    M.call 34 [Value.pointer (some (x5.add 0))] [sP]
                      (fun x6 =>
                        dr M.fail x4.fst fun x7 =>
                          M.call 35 [Value.pointer (some (x7.add 0))] [sP]
                            (fun x8 =>
                              dr M.fail x4.fst fun x9 =>
                                M.call 36 [Value.pointer (some (x9.add 0))] [sP]
                                  (fun x10 =>
                                    M.join [sB]
                                      (fun x11 =>
                                        M.call 38 [Value.pointer x4.fst, vI 0, vB false] [sU, sB, sI]
                                          (fun x12 =>
                                            M.join [sB]
                                              (fun x13 =>
                                                M.call 40 [Value.pointer x10.fst] [sS]
                                                  (fun x14 =>
                                                    M.draw
                                                      (M.load sI { block := x1, off := 2 : Addr } fun x15 =>
                                                        bif (↑x14.fst.len : Int) == wI (x15 + 1) then
                                                          M.load sI { block := x1, off := 2 : Addr } fun x16 =>
                                                            M.guard ((0 : Int) ≤ 0 ∧ 0 < (↑x14.fst.len : Int))
                                                              (dr M.fail x14.fst.base fun x17 => M.load sU (x17.add 0) fun x18 => ret (vB ((x16 == 0) == (x18 == 0))))
                                                        else ret (vB false)))
                                                  fun x19 => pan x19)
                                              fun k20 =>
                                              M.draw
                                                (bif x12.snd.snd.fst != 0 then ret (vB false)
                                                else
                                                  bif !x12.snd.fst then ret (vB false)
                                                  else
                                                    dr M.fail x4.fst fun x21 =>
                                                      M.call 34 [Value.pointer (some (x21.add 0))] [sP]
                                                        (fun x22 =>
                                                          M.sem (eqV 30 (Value.pointer x6.fst) (Value.pointer x22.fst)) sB fun x23 =>
                                                            bif !x23 then ret (vB false)
                                                            else
                                                              dr M.fail x4.fst fun x24 =>
                                                                M.call 35 [Value.pointer (some (x24.add 0))] [sP]
                                                                  (fun x25 =>
                                                                    M.sem (eqV 31 (Value.pointer x8.fst) (Value.pointer x25.fst)) sB fun x26 =>
                                                                      bif !x26 then ret (vB false)
                                                                      else
                                                                        dr M.fail x4.fst fun x27 =>
                                                                          M.call 36 [Value.pointer (some (x27.add 0))] [sP]
                                                                            (fun x28 =>
                                                                              M.sem (eqV 32 (Value.pointer x10.fst) (Value.pointer x28.fst)) sB fun x29 =>
                                                                                bif !x29 then ret (vB false)
                                                                                else
                                                                                  M.call 37 [Value.pointer x6.fst] [sI]
                                                                                    (fun x30 =>
                                                                                      bif x30.fst != 1 then ret (vB false)
                                                                                      else
                                                                                        M.load sI { block := x1, off := 2 : Addr } fun x31 =>
                                                                                          M.guard (0 ≤ x31)
                                                                                            (M.call 39 [Value.pointer x8.fst] [sI]
                                                                                              (fun x32 =>
                                                                                                M.keep [({ block := x1, off := 2 : Addr }, [vI x31])]
                                                                                                  (bif x32.fst != wI (1 * 2 ^ min x31.toNat 64) then ret (vB false)
                                                                                                  else k20 (x11.fst, ())))
                                                                                              fun x33 => pan x33))
                                                                                    fun x34 => pan x34)
                                                                            fun x35 => pan x35)
                                                                  fun x36 => pan x36)
                                                        fun x37 => pan x37))
                                          fun x38 => pan x38)
                                      fun k39 =>
                                      bif x4.snd.fst != 0 then ret (vB false)
                                      else M.call 37 [Value.pointer x6.fst] [sI] (fun x40 => bif x40.fst != 0 then ret (vB false) else k39 (false, ())) fun x41 => pan x41)
                                  fun x42 => pan x42)
                            fun x43 => pan x43)
                      fun x44 => pan x44)
              fun x45 => pan x45)
      fun x46 => pan x46

theorem nf6_eq {T : Type} (M : Prims T) (a0_0 : Int) (a0_1 : Int) (a0_2 : Int) (ret : Value → T) (pan : List PanicEntry → T) :
    funcF M Go.Proofs.Try.prog Go.Proofs.Try.f6 [Value.agg #[vU a0_0, vI a0_1, vI a0_2]] ret pan = nf6 M a0_0 a0_1 a0_2 ret pan := by kernel_rfl

end Go.Proofs.Ytdmfnlcbfmahhaa
