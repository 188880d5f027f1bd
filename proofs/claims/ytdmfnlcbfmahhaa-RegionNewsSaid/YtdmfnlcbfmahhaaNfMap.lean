import Derived.Test.YtdmfnlcbfmahhaaHlDefer
import Derived.Test.YtdmfnlcbfmahhaaHlGoto
import Derived.Test.YtdmfnlcbfmahhaaProg
import Derived.KernelRfl
namespace Go.Proofs.Ytdmfnlcbfmahhaa
open Go Hl
set_option maxRecDepth 100000
-- 74 croft/pagemap.New (645 ms)
noncomputable def nf74 {T : Type} (M : Prims T) (a0 : Int) (ret : Value → T) (pan : List PanicEntry → T) : T :=
  M.new 162 [vI (if (if 8 < a0 then 8 else a0) > 0 then if 8 < a0 then 8 else a0 else 0), Value.slice none 0 0, Value.slice none 0 0] fun x1 =>
    M.load sI { block := x1, off := 0 : Addr } fun x2 =>
      M.loop [sI] (0, ()) fun k3 x4 =>
        bif decide (x4.fst < x2) then
          M.draw
            (M.load sS { block := x1, off := 2 : Addr } fun x5 =>
              M.call 120 [vI 0] [sP]
                (fun x6 =>
                  M.keep [({ block := x1, off := 2 : Addr }, [Value.slice x5.base x5.len x5.cap])]
                    (M.new 179 [Value.pointer x6.fst] fun x7 =>
                      M.keep [({ block := x1, off := 2 : Addr }, [Value.slice x5.base x5.len x5.cap])]
                        (M.sem (Builtin.append_ #[160, 160] 160 #[Value.slice x5.base x5.len x5.cap, Value.slice (some { block := x7, off := 0 : Addr }) 1 1]) sS fun x8 =>
                          M.store { block := x1, off := 2 : Addr } [Value.slice x8.base x8.len x8.cap] (k3 (wI (x4.fst + 1), ())))))
                fun x9 => pan x9)
        else ret (vP x1)

theorem nf74_eq {T : Type} (M : Prims T) (a0 : Int) (ret : Value → T) (pan : List PanicEntry → T) :
    funcF M Go.Proofs.Try.prog Go.Proofs.Try.f74 [vI a0] ret pan = nf74 M a0 ret pan := by kernel_rfl

-- 103 croft/pagemap.plain (188 ms)
noncomputable def nf103 {T : Type} (M : Prims T) (a0 : Int) (a1 : Int) (ret : Value → T) (pan : List PanicEntry → T) : T :=
  M.new 57 [vI 0, vI 0, vI 0, vI 0, vI 0, vI 0, vI 0, vU 0, vU 0, vU 0, vU 0] fun x1 =>
    M.store { block := x1, off := 0 : Addr } [vI a0, vI a1, vI 0, vI 0, vI (-1), vI (-1), vI (-1), vU 0, vU 0, vU 0, vU 0]
      (M.load (Shp.agg [kI, kI, kI, kI, kI, kI, kI, kU, kU, kU, kU]) { block := x1, off := 0 : Addr } fun x2 =>
        ret
          (Value.agg
            #[vI x2.fst, vI x2.snd.fst, vI x2.snd.snd.fst, vI x2.snd.snd.snd.fst, vI x2.snd.snd.snd.snd.fst, vI x2.snd.snd.snd.snd.snd.fst,
              vI x2.snd.snd.snd.snd.snd.snd.fst, vU x2.snd.snd.snd.snd.snd.snd.snd.fst, vU x2.snd.snd.snd.snd.snd.snd.snd.snd.fst,
              vU x2.snd.snd.snd.snd.snd.snd.snd.snd.snd.fst, vU x2.snd.snd.snd.snd.snd.snd.snd.snd.snd.snd.fst]))

theorem nf103_eq {T : Type} (M : Prims T) (a0 : Int) (a1 : Int) (ret : Value → T) (pan : List PanicEntry → T) :
    funcF M Go.Proofs.Try.prog Go.Proofs.Try.f103 [vI a0, vI a1] ret pan = nf103 M a0 a1 ret pan := by kernel_rfl

-- 102 croft/pagemap.within (29 ms)
noncomputable def nf102 {T : Type} (M : Prims T) (a0 : Int) (a1 : Int) (a2 : Int) (ret : Value → T) (pan : List PanicEntry → T) : T :=
  bif decide (a0 ≥ a1) then ret (vB (decide (a0 ≤ a2))) else ret (vB false)

theorem nf102_eq {T : Type} (M : Prims T) (a0 : Int) (a1 : Int) (a2 : Int) (ret : Value → T) (pan : List PanicEntry → T) :
    funcF M Go.Proofs.Try.prog Go.Proofs.Try.f102 [vI a0, vI a1, vI a2] ret pan = nf102 M a0 a1 a2 ret pan := by kernel_rfl

-- 39 (*croft/pagemap.Map).Pages (189 ms)
noncomputable def nf39 {T : Type} (M : Prims T) (a0 : Nat) (ret : Value → T) (pan : List PanicEntry → T) : T :=
  M.load sS { block := a0, off := 1 : Addr } fun x1 => ret (vI (↑x1.len : Int))

theorem nf39_eq {T : Type} (M : Prims T) (a0 : Nat) (ret : Value → T) (pan : List PanicEntry → T) :
    funcF M Go.Proofs.Try.prog Go.Proofs.Try.f39 [vP a0] ret pan = nf39 M a0 ret pan := by kernel_rfl

-- 48 (*croft/pagemap.Map).Run (5222 ms)
noncomputable def nf48 {T : Type} (M : Prims T) (a0 : Nat) (a1 : Int) (a2 : Int) (a3 : Int) (ret : Value → T) (pan : List PanicEntry → T) : T :=
  M.join [sI]
    (fun x1 =>
      M.guard (0 ≤ a2)
        (M.loop [sI] (0, ()) fun k2 x3 =>
          bif decide (x3.fst < wI (1 * 2 ^ min a2.toNat 64)) then
            M.join [] (fun x4 => k2 (wI (x3.fst + 1), ())) fun k5 =>
              M.call 103 [vI a3, vI a2] [Shp.agg [kI, kI, kI, kI, kI, kI, kI, kU, kU, kU, kU]]
                (fun x6 =>
                  M.new 57 [vI 0, vI 0, vI 0, vI 0, vI 0, vI 0, vI 0, vU 0, vU 0, vU 0, vU 0] fun x7 =>
                    M.store { block := x7, off := 0 : Addr }
                      [vI x6.fst.fst, vI x6.fst.snd.fst, vI x6.fst.snd.snd.fst, vI x6.fst.snd.snd.snd.fst, vI x6.fst.snd.snd.snd.snd.fst, vI x6.fst.snd.snd.snd.snd.snd.fst,
                        vI x6.fst.snd.snd.snd.snd.snd.snd.fst, vU x6.fst.snd.snd.snd.snd.snd.snd.snd.fst, vU x6.fst.snd.snd.snd.snd.snd.snd.snd.snd.fst,
                        vU x6.fst.snd.snd.snd.snd.snd.snd.snd.snd.snd.fst, vU x6.fst.snd.snd.snd.snd.snd.snd.snd.snd.snd.snd.fst]
                      (M.join []
                        (fun x8 =>
                          M.draw
                            (M.load sS { block := a0, off := 1 : Addr } fun x9 =>
                              M.guard (0 ≤ wI (a1 + x3.fst) ∧ wI (a1 + x3.fst) < (↑x9.len : Int))
                                (dr M.fail x9.base fun x10 =>
                                  M.load (Shp.agg [kI, kI, kI, kI, kI, kI, kI, kU, kU, kU, kU]) (x10.add ((wI (a1 + x3.fst)).toNat * 11)) fun x11 =>
                                    M.load (Shp.agg [kI, kI, kI, kI, kI, kI, kI, kU, kU, kU, kU]) { block := x7, off := 0 : Addr } fun x12 =>
                                      M.sem
                                        (eqV 57
                                          (Value.agg
                                            #[vI x11.fst, vI x11.snd.fst, vI x11.snd.snd.fst, vI x11.snd.snd.snd.fst, vI x11.snd.snd.snd.snd.fst,
                                              vI x11.snd.snd.snd.snd.snd.fst, vI x11.snd.snd.snd.snd.snd.snd.fst, vU x11.snd.snd.snd.snd.snd.snd.snd.fst,
                                              vU x11.snd.snd.snd.snd.snd.snd.snd.snd.fst, vU x11.snd.snd.snd.snd.snd.snd.snd.snd.snd.fst,
                                              vU x11.snd.snd.snd.snd.snd.snd.snd.snd.snd.snd.fst])
                                          (Value.agg
                                            #[vI x12.fst, vI x12.snd.fst, vI x12.snd.snd.fst, vI x12.snd.snd.snd.fst, vI x12.snd.snd.snd.snd.fst,
                                              vI x12.snd.snd.snd.snd.snd.fst, vI x12.snd.snd.snd.snd.snd.snd.fst, vU x12.snd.snd.snd.snd.snd.snd.snd.fst,
                                              vU x12.snd.snd.snd.snd.snd.snd.snd.snd.fst, vU x12.snd.snd.snd.snd.snd.snd.snd.snd.snd.fst,
                                              vU x12.snd.snd.snd.snd.snd.snd.snd.snd.snd.snd.fst]))
                                        sB fun x13 =>
                                        bif !x13 then
                                          M.draw
                                            (M.load sS { block := a0, off := 1 : Addr } fun x14 =>
                                              M.load (Shp.agg [kI, kI, kI, kI, kI, kI, kI, kU, kU, kU, kU]) { block := x7, off := 0 : Addr } fun x15 =>
                                                M.guard (0 ≤ wI (a1 + x3.fst) ∧ wI (a1 + x3.fst) < (↑x14.len : Int))
                                                  (dr M.fail x14.base fun x16 =>
                                                    M.store (x16.add ((wI (a1 + x3.fst)).toNat * 11))
                                                      [vI x15.fst, vI x15.snd.fst, vI x15.snd.snd.fst, vI x15.snd.snd.snd.fst, vI x15.snd.snd.snd.snd.fst,
                                                        vI x15.snd.snd.snd.snd.snd.fst, vI x15.snd.snd.snd.snd.snd.snd.fst, vU x15.snd.snd.snd.snd.snd.snd.snd.fst,
                                                        vU x15.snd.snd.snd.snd.snd.snd.snd.snd.fst, vU x15.snd.snd.snd.snd.snd.snd.snd.snd.snd.fst,
                                                        vU x15.snd.snd.snd.snd.snd.snd.snd.snd.snd.snd.fst]
                                                      (k5 ())))
                                        else k5 ())))
                        fun k17 =>
                        bif decide (x3.fst > 0) then
                          M.load sI { block := x7, off := 0 : Addr } fun x18 => M.store { block := x7, off := 0 : Addr } [vI (wI (x18 + 1))] (k17 ())
                        else k17 ()))
                fun x19 => pan x19
          else ret (vI 0)))
    fun k20 =>
    M.draw
      (bif a3 != 0 then
        bif a3 != 2 then ret (vI 1)
        else
          M.load sI { block := a0, off := 0 : Addr } fun x21 =>
            M.call 102 [vI a2, vI 0, vI x21] [sB]
              (fun x22 =>
                bif !x22.fst then ret (vI 1)
                else
                  bif decide (a1 < 0) then ret (vI 1)
                  else
                    M.guard (0 ≤ a2)
                      (M.guard (wI (1 * 2 ^ min a2.toNat 64) ≠ 0)
                        (bif a1.tmod (wI (1 * 2 ^ min a2.toNat 64)) != 0 then ret (vI 1)
                        else
                          M.load sS { block := a0, off := 1 : Addr } fun x23 =>
                            M.guard (0 ≤ a2) (bif decide (a1 > wI ((↑x23.len : Int) - wI (1 * 2 ^ min a2.toNat 64))) then ret (vI 1) else k20 (0, ())))))
              fun x24 => pan x24
      else
        M.load sI { block := a0, off := 0 : Addr } fun x25 =>
          M.call 102 [vI a2, vI 0, vI x25] [sB]
            (fun x26 =>
              bif !x26.fst then ret (vI 1)
              else
                bif decide (a1 < 0) then ret (vI 1)
                else
                  M.guard (0 ≤ a2)
                    (M.guard (wI (1 * 2 ^ min a2.toNat 64) ≠ 0)
                      (bif a1.tmod (wI (1 * 2 ^ min a2.toNat 64)) != 0 then ret (vI 1)
                      else
                        M.load sS { block := a0, off := 1 : Addr } fun x27 =>
                          M.guard (0 ≤ a2) (bif decide (a1 > wI ((↑x27.len : Int) - wI (1 * 2 ^ min a2.toNat 64))) then ret (vI 1) else k20 (0, ())))))
            fun x28 => pan x28)

theorem nf48_eq {T : Type} (M : Prims T) (a0 : Nat) (a1 : Int) (a2 : Int) (a3 : Int) (ret : Value → T) (pan : List PanicEntry → T) :
    funcF M Go.Proofs.Try.prog Go.Proofs.Try.f48 [vP a0, vI a1, vI a2, vI a3] ret pan = nf48 M a0 a1 a2 a3 ret pan := by kernel_rfl

-- 49 (*croft/pagemap.Map).Flip (1239 ms)
noncomputable def nf49 {T : Type} (M : Prims T) (a0 : Nat) (a1 : Int) (a2 : Int) (ret : Value → T) (pan : List PanicEntry → T) : T :=
  M.join [sB, sI]
    (fun x1 =>
      M.draw
        (M.load sS { block := a0, off := 2 : Addr } fun x2 =>
          M.guard (0 ≤ a1 ∧ a1 < (↑x2.len : Int))
            (dr M.fail x2.base fun x3 =>
              M.load sP (x3.add (a1.toNat * 1)) fun x4 =>
                M.guard (0 ≤ wI (a1 + 1))
                  (M.call 104 [Value.pointer x4, vI (a2.fdiv (2 ^ min (wI (a1 + 1)).toNat 64))] [sB]
                    (fun x5 => M.call 105 [vP a0, vI a1, vI a2] [sB] (fun x6 => ret (Value.tuple #[vB x6.fst, vI 0])) fun x7 => pan x7) fun x8 => pan x8))))
    fun k9 =>
    M.call 99 [vP a0, vI a2] [Shp.agg [kI, kI, kI, kI, kI, kI, kI, kU, kU, kU, kU], sB]
      (fun x10 =>
        M.new 57 [vI 0, vI 0, vI 0, vI 0, vI 0, vI 0, vI 0, vU 0, vU 0, vU 0, vU 0] fun x11 =>
          M.store { block := x11, off := 0 : Addr }
            [vI x10.fst.fst, vI x10.fst.snd.fst, vI x10.fst.snd.snd.fst, vI x10.fst.snd.snd.snd.fst, vI x10.fst.snd.snd.snd.snd.fst, vI x10.fst.snd.snd.snd.snd.snd.fst,
              vI x10.fst.snd.snd.snd.snd.snd.snd.fst, vU x10.fst.snd.snd.snd.snd.snd.snd.snd.fst, vU x10.fst.snd.snd.snd.snd.snd.snd.snd.snd.fst,
              vU x10.fst.snd.snd.snd.snd.snd.snd.snd.snd.snd.fst, vU x10.fst.snd.snd.snd.snd.snd.snd.snd.snd.snd.snd.fst]
            (bif !x10.snd.fst then ret (Value.tuple #[vB false, vI 1])
            else
              M.load sI { block := a0, off := 0 : Addr } fun x12 =>
                M.call 102 [vI a1, vI 0, vI (wI (x12 - 1))] [sB] (fun x13 => bif !x13.fst then ret (Value.tuple #[vB false, vI 1]) else k9 (false, 0, ())) fun x14 =>
                  pan x14))
      fun x15 => pan x15

theorem nf49_eq {T : Type} (M : Prims T) (a0 : Nat) (a1 : Int) (a2 : Int) (ret : Value → T) (pan : List PanicEntry → T) :
    funcF M Go.Proofs.Try.prog Go.Proofs.Try.f49 [vP a0, vI a1, vI a2] ret pan = nf49 M a0 a1 a2 ret pan := by kernel_rfl

-- 50 (*croft/pagemap.Map).Slab (851 ms)
noncomputable def nf50 {T : Type} (M : Prims T) (a0 : Nat) (a1 : Int) (a2 : Int) (ret : Value → T) (pan : List PanicEntry → T) : T :=
  M.join [sI]
    (fun x1 =>
      M.draw
        (M.load sS { block := a0, off := 1 : Addr } fun x2 =>
          M.call 103 [vI 4, vI 0] [Shp.agg [kI, kI, kI, kI, kI, kI, kI, kU, kU, kU, kU]]
            (fun x3 =>
              M.keep [({ block := a0, off := 1 : Addr }, [Value.slice x2.base x2.len x2.cap])]
                (M.guard (0 ≤ a1 ∧ a1 < (↑x2.len : Int))
                  (dr M.fail x2.base fun x4 =>
                    M.store (x4.add (a1.toNat * 11))
                      [vI x3.fst.fst, vI x3.fst.snd.fst, vI x3.fst.snd.snd.fst, vI x3.fst.snd.snd.snd.fst, vI x3.fst.snd.snd.snd.snd.fst, vI x3.fst.snd.snd.snd.snd.snd.fst,
                        vI x3.fst.snd.snd.snd.snd.snd.snd.fst, vU x3.fst.snd.snd.snd.snd.snd.snd.snd.fst, vU x3.fst.snd.snd.snd.snd.snd.snd.snd.snd.fst,
                        vU x3.fst.snd.snd.snd.snd.snd.snd.snd.snd.snd.fst, vU x3.fst.snd.snd.snd.snd.snd.snd.snd.snd.snd.snd.fst]
                      (M.load sS { block := a0, off := 1 : Addr } fun x5 =>
                        M.guard (0 ≤ a1 ∧ a1 < (↑x5.len : Int))
                          (dr M.fail x5.base fun x6 =>
                            M.store { block := (x6.add (a1.toNat * 11)).block, off := (x6.add (a1.toNat * 11)).off + 2 : Addr } [vI a2] (ret (vI 0)))))))
            fun x7 => pan x7))
    fun k8 =>
    M.call 99 [vP a0, vI a1] [Shp.agg [kI, kI, kI, kI, kI, kI, kI, kU, kU, kU, kU], sB]
      (fun x9 =>
        M.new 57 [vI 0, vI 0, vI 0, vI 0, vI 0, vI 0, vI 0, vU 0, vU 0, vU 0, vU 0] fun x10 =>
          M.store { block := x10, off := 0 : Addr }
            [vI x9.fst.fst, vI x9.fst.snd.fst, vI x9.fst.snd.snd.fst, vI x9.fst.snd.snd.snd.fst, vI x9.fst.snd.snd.snd.snd.fst, vI x9.fst.snd.snd.snd.snd.snd.fst,
              vI x9.fst.snd.snd.snd.snd.snd.snd.fst, vU x9.fst.snd.snd.snd.snd.snd.snd.snd.fst, vU x9.fst.snd.snd.snd.snd.snd.snd.snd.snd.fst,
              vU x9.fst.snd.snd.snd.snd.snd.snd.snd.snd.snd.fst, vU x9.fst.snd.snd.snd.snd.snd.snd.snd.snd.snd.snd.fst]
            (bif !x9.snd.fst then ret (vI 1) else M.call 102 [vI a2, vI 0, vI 7] [sB] (fun x11 => bif !x11.fst then ret (vI 1) else k8 (0, ())) fun x12 => pan x12))
      fun x13 => pan x13

theorem nf50_eq {T : Type} (M : Prims T) (a0 : Nat) (a1 : Int) (a2 : Int) (ret : Value → T) (pan : List PanicEntry → T) :
    funcF M Go.Proofs.Try.prog Go.Proofs.Try.f50 [vP a0, vI a1, vI a2] ret pan = nf50 M a0 a1 a2 ret pan := by kernel_rfl

-- 53 (*croft/pagemap.Map).Grow (511 ms)
noncomputable def nf53 {T : Type} (M : Prims T) (a0 : Nat) (ret : Value → T) (pan : List PanicEntry → T) : T :=
  M.load sS { block := a0, off := 1 : Addr } fun x1 =>
    M.call 106 [vP a0] [sI]
      (fun x2 =>
        bif decide (wI ((↑x1.len : Int) + x2.fst) > 1024) then ret (Value.tuple #[])
        else
          M.draw
            (M.load sS { block := a0, off := 1 : Addr } fun x3 =>
              M.call 106 [vP a0] [sI]
                (fun x4 =>
                  M.keep [({ block := a0, off := 1 : Addr }, [Value.slice x3.base x3.len x3.cap])]
                    (M.sem (Builtin.append_ #[54, 3] 54 #[Value.slice x3.base x3.len x3.cap, vI x4.fst]) sS fun x5 =>
                      M.store { block := a0, off := 1 : Addr } [Value.slice x5.base x5.len x5.cap]
                        (M.call 107 [vP a0] []
                          (fun x6 =>
                            M.load sI { block := a0, off := 0 : Addr } fun x7 =>
                              M.call 48 [vP a0, vI (↑x1.len : Int), vI x7, vI 2] [sI] (fun x8 => ret (Value.tuple #[])) fun x9 => pan x9)
                          fun x10 => pan x10)))
                fun x11 => pan x11))
      fun x12 => pan x12

theorem nf53_eq {T : Type} (M : Prims T) (a0 : Nat) (ret : Value → T) (pan : List PanicEntry → T) :
    funcF M Go.Proofs.Try.prog Go.Proofs.Try.f53 [vP a0] ret pan = nf53 M a0 ret pan := by kernel_rfl

-- 54 (*croft/pagemap.Map).Shrink (1116 ms)
noncomputable def nf54 {T : Type} (M : Prims T) (a0 : Nat) (a1 : Int) (ret : Value → T) (pan : List PanicEntry → T) : T :=
  M.join [sI]
    (fun x1 =>
      M.draw
        (M.load sS { block := a0, off := 1 : Addr } fun x2 =>
          M.load sS { block := a0, off := 1 : Addr } fun x3 =>
            M.call 106 [vP a0] [sI]
              (fun x4 =>
                M.keep [({ block := a0, off := 1 : Addr }, [Value.slice x3.base x3.len x3.cap]), ({ block := a0, off := 1 : Addr }, [Value.slice x2.base x2.len x2.cap])]
                  (M.guard
                    ((0 : Int) ≤ 0 ∧ 0 ≤ wI ((↑x3.len : Int) - wI (a1 * x4.fst)) ∧ wI ((↑x3.len : Int) - wI (a1 * x4.fst)) ≤ (↑x2.cap : Int) ∧ (↑x2.cap : Int) ≤ (↑x2.cap : Int))
                    (M.store { block := a0, off := 1 : Addr }
                      [Value.slice (if (↑x2.cap : Int).toNat = 0 then x2.base else Option.map (fun x => x.add 0) x2.base)
                          ((wI ((↑x3.len : Int) - wI (a1 * x4.fst))).toNat - 0) ((↑x2.cap : Int).toNat - 0)]
                      (M.call 107 [vP a0] [] (fun x5 => ret (vI 0)) fun x6 => pan x6))))
              fun x7 => pan x7))
    fun k8 =>
    M.draw
      (bif decide (a1 < 0) then ret (vI 1)
      else
        M.load sS { block := a0, off := 1 : Addr } fun x9 =>
          M.call 106 [vP a0] [sI]
            (fun x10 =>
              M.keep [({ block := a0, off := 1 : Addr }, [Value.slice x9.base x9.len x9.cap])]
                (M.guard (x10.fst ≠ 0) (bif decide (a1 > wI ((↑x9.len : Int).tdiv x10.fst)) then ret (vI 1) else k8 (0, ()))))
            fun x11 => pan x11)

theorem nf54_eq {T : Type} (M : Prims T) (a0 : Nat) (a1 : Int) (ret : Value → T) (pan : List PanicEntry → T) :
    funcF M Go.Proofs.Try.prog Go.Proofs.Try.f54 [vP a0, vI a1] ret pan = nf54 M a0 a1 ret pan := by kernel_rfl

-- 99 (*croft/pagemap.Map).At (593 ms)
noncomputable def nf99 {T : Type} (M : Prims T) (a0 : Nat) (a1 : Int) (ret : Value → T) (pan : List PanicEntry → T) : T :=
  M.new 57 [vI 0, vI 0, vI 0, vI 0, vI 0, vI 0, vI 0, vU 0, vU 0, vU 0, vU 0] fun x1 =>
    M.join [sB]
      (fun x2 =>
        M.load sS { block := a0, off := 1 : Addr } fun x3 =>
          M.guard (0 ≤ a1 ∧ a1 < (↑x3.len : Int))
            (dr M.fail x3.base fun x4 =>
              M.load (Shp.agg [kI, kI, kI, kI, kI, kI, kI, kU, kU, kU, kU]) (x4.add (a1.toNat * 11)) fun x5 =>
                M.store { block := x1, off := 0 : Addr }
                  [vI x5.fst, vI x5.snd.fst, vI x5.snd.snd.fst, vI x5.snd.snd.snd.fst, vI x5.snd.snd.snd.snd.fst, vI x5.snd.snd.snd.snd.snd.fst,
                    vI x5.snd.snd.snd.snd.snd.snd.fst, vU x5.snd.snd.snd.snd.snd.snd.snd.fst, vU x5.snd.snd.snd.snd.snd.snd.snd.snd.fst,
                    vU x5.snd.snd.snd.snd.snd.snd.snd.snd.snd.fst, vU x5.snd.snd.snd.snd.snd.snd.snd.snd.snd.snd.fst]
                  (M.load (Shp.agg [kI, kI, kI, kI, kI, kI, kI, kU, kU, kU, kU]) { block := x1, off := 0 : Addr } fun x6 =>
                    ret
                      (Value.tuple
                        #[Value.agg
                            #[vI x6.fst, vI x6.snd.fst, vI x6.snd.snd.fst, vI x6.snd.snd.snd.fst, vI x6.snd.snd.snd.snd.fst, vI x6.snd.snd.snd.snd.snd.fst,
                              vI x6.snd.snd.snd.snd.snd.snd.fst, vU x6.snd.snd.snd.snd.snd.snd.snd.fst, vU x6.snd.snd.snd.snd.snd.snd.snd.snd.fst,
                              vU x6.snd.snd.snd.snd.snd.snd.snd.snd.snd.fst, vU x6.snd.snd.snd.snd.snd.snd.snd.snd.snd.snd.fst],
                          vB true]))))
      fun k7 =>
      bif decide (a1 < 0) then
        M.store { block := x1, off := 0 : Addr } [vI 0, vI 0, vI 0, vI 0, vI 0, vI 0, vI 0, vU 0, vU 0, vU 0, vU 0]
          (M.load (Shp.agg [kI, kI, kI, kI, kI, kI, kI, kU, kU, kU, kU]) { block := x1, off := 0 : Addr } fun x8 =>
            ret
              (Value.tuple
                #[Value.agg
                    #[vI x8.fst, vI x8.snd.fst, vI x8.snd.snd.fst, vI x8.snd.snd.snd.fst, vI x8.snd.snd.snd.snd.fst, vI x8.snd.snd.snd.snd.snd.fst,
                      vI x8.snd.snd.snd.snd.snd.snd.fst, vU x8.snd.snd.snd.snd.snd.snd.snd.fst, vU x8.snd.snd.snd.snd.snd.snd.snd.snd.fst,
                      vU x8.snd.snd.snd.snd.snd.snd.snd.snd.snd.fst, vU x8.snd.snd.snd.snd.snd.snd.snd.snd.snd.snd.fst],
                  vB false]))
      else
        M.load sS { block := a0, off := 1 : Addr } fun x9 =>
          bif decide (a1 ≥ (↑x9.len : Int)) then
            M.store { block := x1, off := 0 : Addr } [vI 0, vI 0, vI 0, vI 0, vI 0, vI 0, vI 0, vU 0, vU 0, vU 0, vU 0]
              (M.load (Shp.agg [kI, kI, kI, kI, kI, kI, kI, kU, kU, kU, kU]) { block := x1, off := 0 : Addr } fun x10 =>
                ret
                  (Value.tuple
                    #[Value.agg
                        #[vI x10.fst, vI x10.snd.fst, vI x10.snd.snd.fst, vI x10.snd.snd.snd.fst, vI x10.snd.snd.snd.snd.fst, vI x10.snd.snd.snd.snd.snd.fst,
                          vI x10.snd.snd.snd.snd.snd.snd.fst, vU x10.snd.snd.snd.snd.snd.snd.snd.fst, vU x10.snd.snd.snd.snd.snd.snd.snd.snd.fst,
                          vU x10.snd.snd.snd.snd.snd.snd.snd.snd.snd.fst, vU x10.snd.snd.snd.snd.snd.snd.snd.snd.snd.snd.fst],
                      vB false]))
          else k7 (false, ())

theorem nf99_eq {T : Type} (M : Prims T) (a0 : Nat) (a1 : Int) (ret : Value → T) (pan : List PanicEntry → T) :
    funcF M Go.Proofs.Try.prog Go.Proofs.Try.f99 [vP a0, vI a1] ret pan = nf99 M a0 a1 ret pan := by kernel_rfl

-- 105 (*croft/pagemap.Map).Pair (691 ms)
noncomputable def nf105 {T : Type} (M : Prims T) (a0 : Nat) (a1 : Int) (a2 : Int) (ret : Value → T) (pan : List PanicEntry → T) : T :=
  M.join [sB]
    (fun x1 =>
      M.draw
        (M.load sS { block := a0, off := 2 : Addr } fun x2 =>
          M.guard (0 ≤ a1 ∧ a1 < (↑x2.len : Int))
            (dr M.fail x2.base fun x3 =>
              M.load sP (x3.add (a1.toNat * 1)) fun x4 =>
                M.guard (0 ≤ wI (a1 + 1))
                  (M.call 132 [Value.pointer x4, vI (a2.fdiv (2 ^ min (wI (a1 + 1)).toNat 64))] [sB] (fun x5 => ret (vB x5.fst)) fun x6 => pan x6))))
    fun k7 =>
    M.call 99 [vP a0, vI a2] [Shp.agg [kI, kI, kI, kI, kI, kI, kI, kU, kU, kU, kU], sB]
      (fun x8 =>
        M.new 57 [vI 0, vI 0, vI 0, vI 0, vI 0, vI 0, vI 0, vU 0, vU 0, vU 0, vU 0] fun x9 =>
          M.store { block := x9, off := 0 : Addr }
            [vI x8.fst.fst, vI x8.fst.snd.fst, vI x8.fst.snd.snd.fst, vI x8.fst.snd.snd.snd.fst, vI x8.fst.snd.snd.snd.snd.fst, vI x8.fst.snd.snd.snd.snd.snd.fst,
              vI x8.fst.snd.snd.snd.snd.snd.snd.fst, vU x8.fst.snd.snd.snd.snd.snd.snd.snd.fst, vU x8.fst.snd.snd.snd.snd.snd.snd.snd.snd.fst,
              vU x8.fst.snd.snd.snd.snd.snd.snd.snd.snd.snd.fst, vU x8.fst.snd.snd.snd.snd.snd.snd.snd.snd.snd.snd.fst]
            (bif !x8.snd.fst then ret (vB false)
            else
              M.load sI { block := a0, off := 0 : Addr } fun x10 =>
                M.call 102 [vI a1, vI 0, vI (wI (x10 - 1))] [sB] (fun x11 => bif !x11.fst then ret (vB false) else k7 (false, ())) fun x12 => pan x12))
      fun x13 => pan x13

theorem nf105_eq {T : Type} (M : Prims T) (a0 : Nat) (a1 : Int) (a2 : Int) (ret : Value → T) (pan : List PanicEntry → T) :
    funcF M Go.Proofs.Try.prog Go.Proofs.Try.f105 [vP a0, vI a1, vI a2] ret pan = nf105 M a0 a1 a2 ret pan := by kernel_rfl

-- 106 (*croft/pagemap.Map).size (70 ms)
noncomputable def nf106 {T : Type} (M : Prims T) (a0 : Nat) (ret : Value → T) (pan : List PanicEntry → T) : T :=
  M.load sI { block := a0, off := 0 : Addr } fun x1 => M.guard (0 ≤ x1) (ret (vI (wI (1 * 2 ^ min x1.toNat 64))))

theorem nf106_eq {T : Type} (M : Prims T) (a0 : Nat) (ret : Value → T) (pan : List PanicEntry → T) :
    funcF M Go.Proofs.Try.prog Go.Proofs.Try.f106 [vP a0] ret pan = nf106 M a0 ret pan := by kernel_rfl

-- 107 (*croft/pagemap.Map).paired (442 ms)
noncomputable def nf107 {T : Type} (M : Prims T) (a0 : Nat) (ret : Value → T) (pan : List PanicEntry → T) : T :=
  M.load sS { block := a0, off := 2 : Addr } fun x1 =>
    M.loop [sI] (0, ()) fun k2 x3 =>
      bif decide (x3.fst < (↑x1.len : Int)) then
        M.guard (0 ≤ x3.fst ∧ x3.fst < (↑x1.len : Int))
          (dr M.fail x1.base fun x4 =>
            M.load sP (x4.add (x3.fst.toNat * 1)) fun x5 =>
              M.load sS { block := a0, off := 1 : Addr } fun x6 =>
                M.guard (0 ≤ wI (x3.fst + 1))
                  (M.call 133 [Value.pointer x5, vI ((↑x6.len : Int).fdiv (2 ^ min (wI (x3.fst + 1)).toNat 64))] [] (fun x7 => k2 (wI (x3.fst + 1), ())) fun x8 => pan x8))
      else ret (Value.tuple #[])

theorem nf107_eq {T : Type} (M : Prims T) (a0 : Nat) (ret : Value → T) (pan : List PanicEntry → T) :
    funcF M Go.Proofs.Try.prog Go.Proofs.Try.f107 [vP a0] ret pan = nf107 M a0 ret pan := by kernel_rfl

-- 111 (*croft/pagemap.Map).Plain (611 ms)
noncomputable def nf111 {T : Type} (M : Prims T) (a0 : Nat) (ret : Value → T) (pan : List PanicEntry → T) : T :=
  M.load sS { block := a0, off := 2 : Addr } fun x1 =>
    M.loop [sS, sI] ({ base := none, len := 0, cap := 0 : Sl }, 0, ()) fun k2 x3 =>
      bif decide (x3.snd.fst < (↑x1.len : Int)) then
        M.guard (0 ≤ x3.snd.fst ∧ x3.snd.fst < (↑x1.len : Int))
          (dr M.fail x1.base fun x4 =>
            M.load sP (x4.add (x3.snd.fst.toNat * 1)) fun x5 =>
              M.call 134 [Value.pointer x5] [sS]
                (fun x6 =>
                  M.new 59 [Value.slice x6.fst.base x6.fst.len x6.fst.cap] fun x7 =>
                    M.sem (Builtin.append_ #[58, 58] 58 #[Value.slice x3.fst.base x3.fst.len x3.fst.cap, Value.slice (some { block := x7, off := 0 : Addr }) 1 1]) sS
                      fun x8 => k2 ({ base := x8.base, len := x8.len, cap := x8.cap : Sl }, wI (x3.snd.fst + 1), ()))
                fun x9 => pan x9)
      else
        M.load sS { block := a0, off := 1 : Addr } fun x10 =>
          M.sem (Builtin.append_ #[54, 54] 54 #[Value.slice none 0 0, Value.slice x10.base x10.len x10.cap]) sS fun x11 =>
            ret (Value.tuple #[Value.slice x11.base x11.len x11.cap, Value.slice x3.fst.base x3.fst.len x3.fst.cap])

theorem nf111_eq {T : Type} (M : Prims T) (a0 : Nat) (ret : Value → T) (pan : List PanicEntry → T) :
    funcF M Go.Proofs.Try.prog Go.Proofs.Try.f111 [vP a0] ret pan = nf111 M a0 ret pan := by kernel_rfl

-- 125 croft/pagemap.fits (946 ms)
noncomputable def nf125 {T : Type} (M : Prims T) (a0_0 : Int) (a0_1 : Int) (a0_2 : Int) (a0_3 : Int) (a0_4 : Int) (a0_5 : Int) (a0_6 : Int) (a0_7 : Int) (a0_8 : Int) (a0_9 : Int) (a0_10 : Int) (a1 : Int) (a2 : Int) (ret : Value → T) (pan : List PanicEntry → T) : T :=
  M.new 57 [vI a0_0, vI a0_1, vI a0_2, vI a0_3, vI a0_4, vI a0_5, vI a0_6, vU a0_7, vU a0_8, vU a0_9, vU a0_10] fun x1 =>
    M.load sI { block := x1, off := 0 : Addr } fun x2 =>
      M.call 102 [vI x2, vI 0, vI 4] [sB]
        (fun x3 =>
          bif x3.fst then
            M.load sI { block := x1, off := 1 : Addr } fun x4 =>
              M.call 102 [vI x4, vI 0, vI a1] [sB]
                (fun x5 =>
                  bif x5.fst then
                    M.load sI { block := x1, off := 2 : Addr } fun x6 =>
                      M.call 102 [vI x6, vI 0, vI 7] [sB]
                        (fun x7 =>
                          bif x7.fst then
                            M.load sI { block := x1, off := 3 : Addr } fun x8 =>
                              M.call 102 [vI x8, vI 0, vI 256] [sB]
                                (fun x9 =>
                                  bif x9.fst then
                                    M.load sI { block := x1, off := 4 : Addr } fun x10 =>
                                      M.call 102 [vI x10, vI (-1), vI (wI (a2 - 1))] [sB]
                                        (fun x11 =>
                                          bif x11.fst then
                                            M.load sI { block := x1, off := 5 : Addr } fun x12 =>
                                              M.call 102 [vI x12, vI (-1), vI (wI (a2 - 1))] [sB]
                                                (fun x13 =>
                                                  bif x13.fst then
                                                    M.load sI { block := x1, off := 6 : Addr } fun x14 =>
                                                      M.call 102 [vI x14, vI (-1), vI 255] [sB] (fun x15 => ret (vB x15.fst)) fun x16 => pan x16
                                                  else ret (vB false))
                                                fun x17 => pan x17
                                          else ret (vB false))
                                        fun x18 => pan x18
                                  else ret (vB false))
                                fun x19 => pan x19
                          else ret (vB false))
                        fun x20 => pan x20
                  else ret (vB false))
                fun x21 => pan x21
          else ret (vB false))
        fun x22 => pan x22

theorem nf125_eq {T : Type} (M : Prims T) (a0_0 : Int) (a0_1 : Int) (a0_2 : Int) (a0_3 : Int) (a0_4 : Int) (a0_5 : Int) (a0_6 : Int) (a0_7 : Int) (a0_8 : Int) (a0_9 : Int) (a0_10 : Int) (a1 : Int) (a2 : Int) (ret : Value → T) (pan : List PanicEntry → T) :
    funcF M Go.Proofs.Try.prog Go.Proofs.Try.f125 [Value.agg #[vI a0_0, vI a0_1, vI a0_2, vI a0_3, vI a0_4, vI a0_5, vI a0_6, vU a0_7, vU a0_8, vU a0_9, vU a0_10], vI a1, vI a2] ret pan = nf125 M a0_0 a0_1 a0_2 a0_3 a0_4 a0_5 a0_6 a0_7 a0_8 a0_9 a0_10 a1 a2 ret pan := by kernel_rfl

-- 89 croft/pagemap.Open (1821 ms)
noncomputable def nf89 {T : Type} (M : Prims T) (a0 : Int) (a1 : Sl) (a2 : Sl) (ret : Value → T) (pan : List PanicEntry → T) : T :=
  M.join [sP, sI]
    (fun x1 =>
      M.sem (Builtin.append_ #[54, 54] 54 #[Value.slice none 0 0, Value.slice a1.base a1.len a1.cap]) sS fun x2 =>
        M.new 162 [vI a0, Value.slice x2.base x2.len x2.cap, Value.slice none 0 0] fun x3 =>
          M.loop [sP, sI, sI] (x1.fst, x1.snd.fst, 0, ()) fun k4 x5 =>
            bif decide (x5.snd.snd.fst < (↑a2.len : Int)) then
              M.guard (0 ≤ x5.snd.snd.fst ∧ x5.snd.snd.fst < (↑a2.len : Int))
                (dr M.fail a2.base fun x6 =>
                  M.load sS (x6.add (x5.snd.snd.fst.toNat * 1)) fun x7 =>
                    M.guard (0 ≤ wI (x5.snd.snd.fst + 1))
                      (bif (↑x7.len : Int) != wI ((wI ((↑a1.len : Int).fdiv (2 ^ min (wI (x5.snd.snd.fst + 1)).toNat 64) + 63)).tdiv 64) then
                        ret (Value.tuple #[Value.pointer none, vI 7])
                      else
                        M.draw
                          (M.load sS { block := x3, off := 2 : Addr } fun x8 =>
                            M.call 124 [Value.slice x7.base x7.len x7.cap, vI ((↑a1.len : Int).fdiv (2 ^ min (wI (x5.snd.snd.fst + 1)).toNat 64))] [sP]
                              (fun x9 =>
                                M.keep [({ block := x3, off := 2 : Addr }, [Value.slice x8.base x8.len x8.cap])]
                                  (M.new 179 [Value.pointer x9.fst] fun x10 =>
                                    M.keep [({ block := x3, off := 2 : Addr }, [Value.slice x8.base x8.len x8.cap])]
                                      (M.sem
                                        (Builtin.append_ #[160, 160] 160 #[Value.slice x8.base x8.len x8.cap, Value.slice (some { block := x10, off := 0 : Addr }) 1 1]) sS
                                        fun x11 =>
                                        M.store { block := x3, off := 2 : Addr } [Value.slice x11.base x11.len x11.cap]
                                          (k4 (x5.fst, x5.snd.fst, wI (x5.snd.snd.fst + 1), ())))))
                              fun x12 => pan x12)))
            else
              M.loop [sP, sI, sI] (x5.fst, x5.snd.fst, 0, ()) fun k13 x14 =>
                bif decide (x14.snd.snd.fst < (↑a1.len : Int)) then
                  M.guard (0 ≤ x14.snd.snd.fst ∧ x14.snd.snd.fst < (↑a1.len : Int))
                    (dr M.fail a1.base fun x15 =>
                      M.load (Shp.agg [kI, kI, kI, kI, kI, kI, kI, kU, kU, kU, kU]) (x15.add (x14.snd.snd.fst.toNat * 11)) fun x16 =>
                        M.new 57 [vI 0, vI 0, vI 0, vI 0, vI 0, vI 0, vI 0, vU 0, vU 0, vU 0, vU 0] fun x17 =>
                          M.store { block := x17, off := 0 : Addr }
                            [vI x16.fst, vI x16.snd.fst, vI x16.snd.snd.fst, vI x16.snd.snd.snd.fst, vI x16.snd.snd.snd.snd.fst, vI x16.snd.snd.snd.snd.snd.fst,
                              vI x16.snd.snd.snd.snd.snd.snd.fst, vU x16.snd.snd.snd.snd.snd.snd.snd.fst, vU x16.snd.snd.snd.snd.snd.snd.snd.snd.fst,
                              vU x16.snd.snd.snd.snd.snd.snd.snd.snd.snd.fst, vU x16.snd.snd.snd.snd.snd.snd.snd.snd.snd.snd.fst]
                            (M.load (Shp.agg [kI, kI, kI, kI, kI, kI, kI, kU, kU, kU, kU]) { block := x17, off := 0 : Addr } fun x18 =>
                              M.call 125
                                [Value.agg
                                    #[vI x18.fst, vI x18.snd.fst, vI x18.snd.snd.fst, vI x18.snd.snd.snd.fst, vI x18.snd.snd.snd.snd.fst, vI x18.snd.snd.snd.snd.snd.fst,
                                      vI x18.snd.snd.snd.snd.snd.snd.fst, vU x18.snd.snd.snd.snd.snd.snd.snd.fst, vU x18.snd.snd.snd.snd.snd.snd.snd.snd.fst,
                                      vU x18.snd.snd.snd.snd.snd.snd.snd.snd.snd.fst, vU x18.snd.snd.snd.snd.snd.snd.snd.snd.snd.snd.fst],
                                  vI a0, vI (↑a1.len : Int)]
                                [sB]
                                (fun x19 => bif !x19.fst then ret (Value.tuple #[Value.pointer none, vI 7]) else k13 (x14.fst, x14.snd.fst, wI (x14.snd.snd.fst + 1), ()))
                                fun x20 => pan x20))
                else ret (Value.tuple #[vP x3, vI 0]))
    fun k21 =>
    M.call 102 [vI a0, vI 0, vI 8] [sB]
      (fun x22 =>
        bif !x22.fst then ret (Value.tuple #[Value.pointer none, vI 7])
        else
          bif decide ((↑a1.len : Int) > 1024) then ret (Value.tuple #[Value.pointer none, vI 7])
          else
            M.guard (0 ≤ a0)
              (M.guard (wI (1 * 2 ^ min a0.toNat 64) ≠ 0)
                (bif (↑a1.len : Int).tmod (wI (1 * 2 ^ min a0.toNat 64)) != 0 then ret (Value.tuple #[Value.pointer none, vI 7])
                else bif (↑a2.len : Int) != a0 then ret (Value.tuple #[Value.pointer none, vI 7]) else k21 (none, 0, ()))))
      fun x23 => pan x23

theorem nf89_eq {T : Type} (M : Prims T) (a0 : Int) (a1 : Sl) (a2 : Sl) (ret : Value → T) (pan : List PanicEntry → T) :
    funcF M Go.Proofs.Try.prog Go.Proofs.Try.f89 [vI a0, Value.slice a1.base a1.len a1.cap, Value.slice a2.base a2.len a2.cap] ret pan = nf89 M a0 a1 a2 ret pan := by kernel_rfl

end Go.Proofs.Ytdmfnlcbfmahhaa
