import Derived.Test.YtdmfnlcbfmahhaaHlDefer
import Derived.Test.YtdmfnlcbfmahhaaHlGoto
import Derived.Test.YtdmfnlcbfmahhaaProg
import Derived.KernelRfl
namespace Go.Proofs.Ytdmfnlcbfmahhaa
open Go Hl
set_option maxRecDepth 100000
-- 27 croft/croftlaw5.marked (1238 ms)
noncomputable def nf27 {T : Type} (M : Prims T) (a0 : Nat) (a1_0 : Int) (a1_1 : Int) (a1_2 : Int) (ret : Value → T) (pan : List PanicEntry → T) : T :=
  M.new 49 [vI a1_0, vI a1_1, v8 a1_2] fun x1 =>
    M.draw
      (M.load sP { block := a0, off := 3 : Addr } fun x2 =>
        M.load sI { block := x1, off := 0 : Addr } fun x3 =>
          M.load sI { block := x1, off := 1 : Addr } fun x4 =>
            M.guard (0 ≤ wU x4)
              (M.call 26 [vP a0, vI x3] [sU]
                (fun x5 =>
                  M.keep [({ block := x1, off := 1 : Addr }, [vI x4]), ({ block := a0, off := 3 : Addr }, [Value.pointer x2])]
                    (M.call 63 [Value.pointer x2, vU x5.fst, vU (wU (4096 * 2 ^ min (wU x4).toNat 64))] [sS, sI]
                      (fun x6 =>
                        M.join [sB]
                          (fun x7 =>
                            M.loop [sB, sI] (x7.fst, 0, ()) fun k8 x9 =>
                              bif decide (x9.snd.fst < (↑x6.fst.len : Int)) then
                                M.draw
                                  (M.guard (0 ≤ x9.snd.fst ∧ x9.snd.fst < (↑x6.fst.len : Int))
                                    (dr M.fail x6.fst.base fun x10 =>
                                      M.load s8 (x10.add (x9.snd.fst.toNat * 1)) fun x11 =>
                                        M.load s8 { block := x1, off := 2 : Addr } fun x12 => bif x11 != x12 then ret (vB false) else k8 (x9.fst, wI (x9.snd.fst + 1), ())))
                              else ret (vB true))
                          fun k13 =>
                          bif x6.snd.fst != 0 then ret (vB false)
                          else
                            M.load sI { block := x1, off := 1 : Addr } fun x14 =>
                              M.guard (0 ≤ wU x14) (bif (↑x6.fst.len : Int) != wI (4096 * 2 ^ min (wU x14).toNat 64) then ret (vB false) else k13 (false, ())))
                      fun x15 => pan x15))
                fun x16 => pan x16))

theorem nf27_eq {T : Type} (M : Prims T) (a0 : Nat) (a1_0 : Int) (a1_1 : Int) (a1_2 : Int) (ret : Value → T) (pan : List PanicEntry → T) :
    funcF M Go.Proofs.Try.prog Go.Proofs.Try.f27 [vP a0, Value.agg #[vI a1_0, vI a1_1, v8 a1_2]] ret pan = nf27 M a0 a1_0 a1_1 a1_2 ret pan := by kernel_rfl

-- croft/croftlaw5.BuddyKeeps (4113 ms)
noncomputable def nf4 {T : Type} (M : Prims T) (a0_0 : Int) (a0_1 : Int) (a0_2 : Int) (a1 : Sl) (ret : Value → T) (pan : List PanicEntry → T) : T :=
  M.new 24 [vU a0_0, vI a0_1, vI a0_2] fun x1 =>
    M.load (Shp.agg [kU, kI, kI]) { block := x1, off := 0 : Addr } fun x2 =>
      M.call 20 [Value.agg #[vU x2.fst, vI x2.snd.fst, vI x2.snd.snd.fst]] [sP]
        (fun x3 =>
          M.join [sB]
            (fun x4 =>
              M.new 42 [Value.slice none 0 0] fun x5 =>
                M.store { block := x5, off := 0 : Addr } [Value.slice none 0 0]
                  (M.join [sB, sI]
                    (fun x6 =>
                      M.loop [sB, sI] (x6.fst, 0, ()) fun k7 x8 =>
                        M.load sS { block := x5, off := 0 : Addr } fun x9 =>
                          bif decide (x8.snd.fst < (↑x9.len : Int)) then
                            M.load sS { block := x5, off := 0 : Addr } fun x10 =>
                              M.guard (0 ≤ x8.snd.fst ∧ x8.snd.fst < (↑x10.len : Int))
                                (dr M.fail x10.base fun x11 =>
                                  M.load (Shp.agg [kI, kI, Kind.int IntKind.u8]) (x11.add (x8.snd.fst.toNat * 3)) fun x12 =>
                                    M.call 27 [Value.pointer x3.fst, Value.agg #[vI x12.fst, vI x12.snd.fst, v8 x12.snd.snd.fst]] [sB]
                                      (fun x13 => bif !x13.fst then ret (vB false) else k7 (x8.fst, wI (x8.snd.fst + 1), ())) fun x14 => pan x14)
                          else ret (vB true))
                    fun k15 =>
                    M.loop [sB, sI] (x4.fst, 0, ()) fun k16 x17 =>
                      M.join []
                        (fun x18 =>
                          M.draw
                            (M.load (Shp.agg [Kind.slice]) { block := x5, off := 0 : Addr } fun x19 =>
                              M.guard (0 ≤ x17.snd.fst ∧ x17.snd.fst < (↑a1.len : Int))
                                (dr M.fail a1.base fun x20 =>
                                  M.load (Shp.agg [kI, kI, kI]) (x20.add (x17.snd.fst.toNat * 3)) fun x21 =>
                                    M.both
                                      (M.call 24
                                        [Value.pointer x3.fst, Value.agg #[Value.slice x19.fst.base x19.fst.len x19.fst.cap],
                                          Value.agg #[vI x21.fst, vI x21.snd.fst, vI x21.snd.snd.fst]]
                                        [Shp.agg [Kind.slice], sB]
                                        (fun x22 =>
                                          M.new 42 [Value.slice none 0 0] fun x23 =>
                                            M.store { block := x23, off := 0 : Addr } [Value.slice x22.fst.fst.base x22.fst.fst.len x22.fst.fst.cap]
                                              (bif !x22.snd.fst then ret (vB false)
                                              else
                                                M.join [sB]
                                                  (fun x24 =>
                                                    M.load (Shp.agg [Kind.slice]) { block := x23, off := 0 : Addr } fun x25 =>
                                                      M.store { block := x5, off := 0 : Addr } [Value.slice x25.fst.base x25.fst.len x25.fst.cap]
                                                        (k16 (x24.fst, wI (x17.snd.fst + 1), ())))
                                                  fun k26 =>
                                                  M.load sS { block := x23, off := 0 : Addr } fun x27 =>
                                                    M.load sS { block := x5, off := 0 : Addr } fun x28 =>
                                                      bif decide ((↑x27.len : Int) > (↑x28.len : Int)) then
                                                        M.load sS { block := x23, off := 0 : Addr } fun x29 =>
                                                          M.load sS { block := x23, off := 0 : Addr } fun x30 =>
                                                            M.guard (0 ≤ wI ((↑x30.len : Int) - 1) ∧ wI ((↑x30.len : Int) - 1) < (↑x29.len : Int))
                                                              (dr M.fail x29.base fun x31 =>
                                                                M.load (Shp.agg [kI, kI, Kind.int IntKind.u8]) (x31.add ((wI ((↑x30.len : Int) - 1)).toNat * 3)) fun x32 =>
                                                                  M.new 49 [vI 0, vI 0, v8 0] fun x33 =>
                                                                    M.store { block := x33, off := 0 : Addr } [vI x32.fst, vI x32.snd.fst, v8 x32.snd.snd.fst]
                                                                      (M.draw
                                                                        (dr M.fail x3.fst fun x34 =>
                                                                          M.load sP { block := x34.block, off := x34.off + 3 : Addr } fun x35 =>
                                                                            M.load sI { block := x33, off := 0 : Addr } fun x36 =>
                                                                              M.load sI { block := x33, off := 1 : Addr } fun x37 =>
                                                                                M.guard (0 ≤ wU x37)
                                                                                  (M.load s8 { block := x33, off := 2 : Addr } fun x38 =>
                                                                                    M.call 26 [Value.pointer x3.fst, vI x36] [sU]
                                                                                      (fun x39 =>
                                                                                        M.keep
                                                                                          [({ block := x33, off := 2 : Addr }, [v8 x38]),
                                                                                            ({ block := x33, off := 1 : Addr }, [vI x37]),
                                                                                            ({ block := x34.block, off := x34.off + 3 : Addr }, [Value.pointer x35])]
                                                                                          (M.call 25
                                                                                            [Value.pointer x35, vU x39.fst, vU (wU (4096 * 2 ^ min (wU x37).toNat 64)),
                                                                                              v8 x38]
                                                                                            [sI] (fun x40 => bif x40.fst != 0 then ret (vB false) else k26 (x17.fst, ()))
                                                                                            fun x41 => pan x41))
                                                                                      fun x42 => pan x42))))
                                                      else k26 (x17.fst, ())))
                                        fun x43 => pan x43)
                                      (M.new 42 [Value.slice none 0 0] fun x44 =>
                                        M.keep
                                          [(x20.add (x17.snd.fst.toNat * 3), [vI x21.fst, vI x21.snd.fst, vI x21.snd.snd.fst]),
                                            ({ block := x5, off := 0 : Addr }, [Value.slice x19.fst.base x19.fst.len x19.fst.cap])]
                                          (M.call 24
                                            [Value.pointer x3.fst, Value.agg #[Value.slice x19.fst.base x19.fst.len x19.fst.cap],
                                              Value.agg #[vI x21.fst, vI x21.snd.fst, vI x21.snd.snd.fst]]
                                            [Shp.agg [Kind.slice], sB]
                                            (fun x45 =>
                                              M.store { block := x44, off := 0 : Addr } [Value.slice x45.fst.fst.base x45.fst.fst.len x45.fst.fst.cap]
                                                (bif !x45.snd.fst then ret (vB false)
                                                else
                                                  M.join [sB]
                                                    (fun x46 =>
                                                      M.load (Shp.agg [Kind.slice]) { block := x44, off := 0 : Addr } fun x47 =>
                                                        M.store { block := x5, off := 0 : Addr } [Value.slice x47.fst.base x47.fst.len x47.fst.cap]
                                                          (k16 (x46.fst, wI (x17.snd.fst + 1), ())))
                                                    fun k48 =>
                                                    M.load sS { block := x44, off := 0 : Addr } fun x49 =>
                                                      M.load sS { block := x5, off := 0 : Addr } fun x50 =>
                                                        bif decide ((↑x49.len : Int) > (↑x50.len : Int)) then
                                                          M.load sS { block := x44, off := 0 : Addr } fun x51 =>
                                                            M.load sS { block := x44, off := 0 : Addr } fun x52 =>
                                                              M.guard (0 ≤ wI ((↑x52.len : Int) - 1) ∧ wI ((↑x52.len : Int) - 1) < (↑x51.len : Int))
                                                                (dr M.fail x51.base fun x53 =>
                                                                  M.load (Shp.agg [kI, kI, Kind.int IntKind.u8]) (x53.add ((wI ((↑x52.len : Int) - 1)).toNat * 3))
                                                                    fun x54 =>
                                                                    M.new 49 [vI 0, vI 0, v8 0] fun x55 =>
                                                                      M.store { block := x55, off := 0 : Addr } [vI x54.fst, vI x54.snd.fst, v8 x54.snd.snd.fst]
                                                                        (M.draw
                                                                          (dr M.fail x3.fst fun x56 =>
                                                                            M.load sP { block := x56.block, off := x56.off + 3 : Addr } fun x57 =>
                                                                              M.load sI { block := x55, off := 0 : Addr } fun x58 =>
                                                                                M.load sI { block := x55, off := 1 : Addr } fun x59 =>
                                                                                  M.guard (0 ≤ wU x59)
                                                                                    (M.load s8 { block := x55, off := 2 : Addr } fun x60 =>
                                                                                      M.call 26 [Value.pointer x3.fst, vI x58] [sU]
                                                                                        (fun x61 =>
                                                                                          M.keep
                                                                                            [({ block := x55, off := 2 : Addr }, [v8 x60]),
                                                                                              ({ block := x55, off := 1 : Addr }, [vI x59]),
                                                                                              ({ block := x56.block, off := x56.off + 3 : Addr }, [Value.pointer x57])]
                                                                                            (M.call 25
                                                                                              [Value.pointer x57, vU x61.fst, vU (wU (4096 * 2 ^ min (wU x59).toNat 64)),
                                                                                                v8 x60]
                                                                                              [sI] (fun x62 => bif x62.fst != 0 then ret (vB false) else k48 (x17.fst, ()))
                                                                                              fun x63 => pan x63))
                                                                                        fun x64 => pan x64))))
                                                        else k48 (x17.fst, ())))
                                            fun x65 => pan x65)))))
                        fun k66 =>
                        bif decide (x17.snd.fst < (↑a1.len : Int)) then bif decide (x17.snd.fst < 60) then k66 () else k15 (x17.fst, x17.snd.fst, ())
                        else k15 (x17.fst, x17.snd.fst, ())))
            fun k67 =>
            M.sem (eqV 26 (Value.pointer x3.fst) (Value.pointer none)) sB fun x68 =>
              bif x68 then ret (vB false)
              else
                M.call 21 [] [sB]
                  (fun x69 =>
                    bif !x69.fst then ret (vB false)
                    else
                      M.call 22 [Value.pointer x3.fst] [sB]
                        (fun x70 =>
                          bif !x70.fst then ret (vB false)
                          else
                            dr M.fail x3.fst fun x71 =>
                              M.load sP { block := x71.block, off := x71.off + 5 : Addr } fun x72 =>
                                M.call 23 [Value.pointer x72] [sI] (fun x73 => bif x73.fst != 0 then ret (vB false) else k67 (false, ())) fun x74 => pan x74)
                        fun x75 => pan x75)
                  fun x76 => pan x76)
        fun x77 => pan x77

theorem nf4_eq {T : Type} (M : Prims T) (a0_0 : Int) (a0_1 : Int) (a0_2 : Int) (a1 : Sl) (ret : Value → T) (pan : List PanicEntry → T) :
    funcF M Go.Proofs.Try.prog Go.Proofs.Try.f4 [Value.agg #[vU a0_0, vI a0_1, vI a0_2], Value.slice a1.base a1.len a1.cap] ret pan = nf4 M a0_0 a0_1 a0_2 a1 ret pan := by kernel_rfl

end Go.Proofs.Ytdmfnlcbfmahhaa
