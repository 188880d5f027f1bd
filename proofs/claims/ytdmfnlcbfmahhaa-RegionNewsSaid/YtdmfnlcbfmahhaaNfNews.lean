import Derived.Test.YtdmfnlcbfmahhaaHlDefer
import Derived.Test.YtdmfnlcbfmahhaaHlGoto
import Derived.Test.YtdmfnlcbfmahhaaProg
import Derived.KernelRfl
namespace Go.Proofs.Ytdmfnlcbfmahhaa
open Go Hl
set_option maxRecDepth 100000
-- croft/croftlaw6.RegionNews (3608 ms)
noncomputable def nf12 {T : Type} (M : Prims T) (a0_0 : Int) (a0_1 : Int) (a0_2 : Int) (ret : Value → T) (pan : List PanicEntry → T) : T :=
  M.new 24 [vU a0_0, vI a0_1, vI a0_2] fun x1 =>
    M.call 28 [] [sB]
      (fun x2 =>
        bif !x2.fst then ret (vB false)
        else
          M.load (Shp.agg [kU, kI, kI]) { block := x1, off := 0 : Addr } fun x3 =>
            M.call 33 [Value.agg #[vU x3.fst, vI x3.snd.fst, vI x3.snd.snd.fst]] [sP, sI]
              (fun x4 =>
                M.load (Shp.agg [kU, kI, kI]) { block := x1, off := 0 : Addr } fun x5 =>
                  M.call 30 [Value.agg #[vU x5.fst, vI x5.snd.fst, vI x5.snd.snd.fst]] [sB]
                    (fun x6 =>
                      bif !x6.fst then ret (vB (x4.snd.fst == 1))
                      else
                        M.draw
                          (bif x4.snd.fst == 0 then
                            dr M.fail x4.fst fun x7 =>
                              M.call 34 [Value.pointer (some (x7.add 0))] [sP]
                                (fun x8 =>
                                  M.call 37 [Value.pointer x8.fst] [sI]
                                    (fun x9 =>
                                      bif x9.fst == 0 then
                                        dr M.fail x4.fst fun x10 =>
                                          M.load sU { block := x1, off := 0 : Addr } fun x11 =>
                                            M.call 34 [Value.pointer (some (x10.add 0))] [sP]
                                              (fun x12 =>
                                                M.keep [({ block := x1, off := 0 : Addr }, [vU x11])]
                                                  (M.call 57 [Value.pointer x12.fst] [sU]
                                                    (fun x13 =>
                                                      M.keep [({ block := x1, off := 0 : Addr }, [vU x11])]
                                                        (bif x13.fst == x11 then
                                                          dr M.fail x4.fst fun x14 =>
                                                            M.call 35 [Value.pointer (some (x14.add 0))] [sP]
                                                              (fun x15 =>
                                                                M.call 39 [Value.pointer x15.fst] [sI]
                                                                  (fun x16 =>
                                                                    bif x16.fst == 0 then
                                                                      dr M.fail x4.fst fun x17 =>
                                                                        M.load sI { block := x1, off := 2 : Addr } fun x18 =>
                                                                          M.call 36 [Value.pointer (some (x17.add 0))] [sP]
                                                                            (fun x19 =>
                                                                              M.keep [({ block := x1, off := 2 : Addr }, [vI x18])]
                                                                                (M.call 40 [Value.pointer x19.fst] [sS]
                                                                                  (fun x20 =>
                                                                                    M.keep [({ block := x1, off := 2 : Addr }, [vI x18])]
                                                                                      (bif (↑x20.fst.len : Int) == wI (x18 + 1) then
                                                                                        M.call 58 [Value.pointer x4.fst] [sI] (fun x21 => ret (vB (x21.fst == 0)))
                                                                                          fun x22 => pan x22
                                                                                      else ret (vB false)))
                                                                                  fun x23 => pan x23))
                                                                            fun x24 => pan x24
                                                                    else ret (vB false))
                                                                  fun x25 => pan x25)
                                                              fun x26 => pan x26
                                                        else ret (vB false)))
                                                    fun x27 => pan x27))
                                              fun x28 => pan x28
                                      else ret (vB false))
                                    fun x29 => pan x29)
                                fun x30 => pan x30
                          else ret (vB false)))
                    fun x31 => pan x31)
              fun x32 => pan x32)
      fun x33 => pan x33

theorem nf12_eq {T : Type} (M : Prims T) (a0_0 : Int) (a0_1 : Int) (a0_2 : Int) (ret : Value → T) (pan : List PanicEntry → T) :
    funcF M Go.Proofs.Try.prog Go.Proofs.Try.f12 [Value.agg #[vU a0_0, vI a0_1, vI a0_2]] ret pan = nf12 M a0_0 a0_1 a0_2 ret pan := by kernel_rfl

end Go.Proofs.Ytdmfnlcbfmahhaa
