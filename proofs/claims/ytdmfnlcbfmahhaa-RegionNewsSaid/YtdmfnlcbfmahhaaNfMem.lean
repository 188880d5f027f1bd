import Derived.Test.YtdmfnlcbfmahhaaHlDefer
import Derived.Test.YtdmfnlcbfmahhaaHlGoto
import Derived.Test.YtdmfnlcbfmahhaaProg
import Derived.KernelRfl
namespace Go.Proofs.Ytdmfnlcbfmahhaa
open Go Hl
set_option maxRecDepth 100000
-- 37 (*croft/mem.Space).Regions (153 ms)
noncomputable def nf37 {T : Type} (M : Prims T) (a0 : Nat) (ret : Value → T) (pan : List PanicEntry → T) : T :=
  M.load sS { block := a0, off := 4 : Addr } fun x1 => ret (vI (↑x1.len : Int))

theorem nf37_eq {T : Type} (M : Prims T) (a0 : Nat) (ret : Value → T) (pan : List PanicEntry → T) :
    funcF M Go.Proofs.Try.prog Go.Proofs.Try.f37 [vP a0] ret pan = nf37 M a0 ret pan := by kernel_rfl

-- 57 (*croft/mem.Space).End (436 ms)
noncomputable def nf57 {T : Type} (M : Prims T) (a0 : Nat) (ret : Value → T) (pan : List PanicEntry → T) : T :=
  M.draw
    (M.load sU { block := a0, off := 0 : Addr } fun x1 =>
      M.load sU { block := a0, off := 3 : Addr } fun x2 => M.load sS { block := a0, off := 4 : Addr } fun x3 => ret (vU (wU (x1 + wU (x2 * wU (↑x3.len : Int))))))

theorem nf57_eq {T : Type} (M : Prims T) (a0 : Nat) (ret : Value → T) (pan : List PanicEntry → T) :
    funcF M Go.Proofs.Try.prog Go.Proofs.Try.f57 [vP a0] ret pan = nf57 M a0 ret pan := by kernel_rfl

-- (*croft/mem.Space).look (503 ms)
noncomputable def nf87 {T : Type} (M : Prims T) (a0 : Nat) (a1 : Int) (a2 : Int) (ret : Value → T) (pan : List PanicEntry → T) : T :=
  bif a2 != 0 then
    M.load sU { block := a0, off := 0 : Addr } fun x1 =>
      bif decide (a1 < x1) then
        pan
          [{ v := Value.iface 197 (Value.agg (Array.foldl (fun cs x => cs.setIfInBounds (0 + x.snd) x.fst) (Value.agg #[vI 0]).cells (vI 4).cells.zipIdx 0 1)),
              recovered := false : PanicEntry }]
      else
        M.call 57 [vP a0] [sU]
          (fun x2 =>
            bif decide (a1 > x2.fst) then
              pan
                [{ v := Value.iface 197 (Value.agg (Array.foldl (fun cs x => cs.setIfInBounds (0 + x.snd) x.fst) (Value.agg #[vI 0]).cells (vI 4).cells.zipIdx 0 1)),
                    recovered := false : PanicEntry }]
            else
              M.call 57 [vP a0] [sU]
                (fun x3 =>
                  bif decide (a2 > wU (x3.fst - a1)) then
                    pan
                      [{ v := Value.iface 197 (Value.agg (Array.foldl (fun cs x => cs.setIfInBounds (0 + x.snd) x.fst) (Value.agg #[vI 0]).cells (vI 4).cells.zipIdx 0 1)),
                          recovered := false : PanicEntry }]
                  else ret (Value.tuple #[]))
                fun x4 => pan x4)
          fun x5 => pan x5
  else ret (Value.tuple #[])

theorem nf87_eq {T : Type} (M : Prims T) (a0 : Nat) (a1 : Int) (a2 : Int) (ret : Value → T) (pan : List PanicEntry → T) :
    funcF M Go.Proofs.Try.prog Go.Proofs.Try.f87 [vP a0, vU a1, vU a2] ret pan = nf87 M a0 a1 a2 ret pan := by kernel_rfl

-- 88 (*croft/mem.Space).byteAt (631 ms)
noncomputable def nf88 {T : Type} (M : Prims T) (a0 : Nat) (a1 : Int) (ret : Value → T) (pan : List PanicEntry → T) : T :=
  M.load sU { block := a0, off := 0 : Addr } fun x1 =>
    M.draw
      (M.load sS { block := a0, off := 4 : Addr } fun x2 =>
        M.load sU { block := a0, off := 3 : Addr } fun x3 =>
          M.guard (x3 ≠ 0)
            (M.guard (0 ≤ wU ((wU (a1 - x1)).tdiv x3) ∧ wU ((wU (a1 - x1)).tdiv x3) < (↑x2.len : Int))
              (dr M.fail x2.base fun x4 =>
                M.load sS (x4.add ((wU ((wU (a1 - x1)).tdiv x3)).toNat * 1)) fun x5 =>
                  M.load sU { block := a0, off := 3 : Addr } fun x6 =>
                    M.guard (x6 ≠ 0)
                      (M.guard (0 ≤ (wU (a1 - x1)).tmod x6 ∧ (wU (a1 - x1)).tmod x6 < (↑x5.len : Int))
                        (dr M.fail x5.base fun x7 => ret (Value.pointer (some (x7.add (((wU (a1 - x1)).tmod x6).toNat * 1)))))))))

theorem nf88_eq {T : Type} (M : Prims T) (a0 : Nat) (a1 : Int) (ret : Value → T) (pan : List PanicEntry → T) :
    funcF M Go.Proofs.Try.prog Go.Proofs.Try.f88 [vP a0, vU a1] ret pan = nf88 M a0 a1 ret pan := by kernel_rfl

-- 110 (*croft/mem.Space).get (1116 ms)
noncomputable def nf110 {T : Type} (M : Prims T) (a0 : Nat) (a1 : Int) (a2 : Sl) (ret : Value → T) (pan : List PanicEntry → T) : T :=
  M.loop [sS, sU] ({ base := a2.base, len := a2.len, cap := a2.cap : Sl }, a1, ()) fun k1 x2 =>
    bif decide ((↑x2.fst.len : Int) > 0) then
      M.load sU { block := a0, off := 0 : Addr } fun x3 =>
        M.draw
          (M.load sS { block := a0, off := 4 : Addr } fun x4 =>
            M.load sU { block := a0, off := 3 : Addr } fun x5 =>
              M.guard (x5 ≠ 0)
                (M.guard (0 ≤ wU ((wU (x2.snd.fst - x3)).tdiv x5) ∧ wU ((wU (x2.snd.fst - x3)).tdiv x5) < (↑x4.len : Int))
                  (dr M.fail x4.base fun x6 =>
                    M.load sS (x6.add ((wU ((wU (x2.snd.fst - x3)).tdiv x5)).toNat * 1)) fun x7 =>
                      M.load sU { block := a0, off := 3 : Addr } fun x8 =>
                        M.guard (x8 ≠ 0)
                          (M.guard
                            (0 ≤ (wU (x2.snd.fst - x3)).tmod x8 ∧
                              (wU (x2.snd.fst - x3)).tmod x8 ≤ (↑x7.len : Int) ∧ (↑x7.len : Int) ≤ (↑x7.cap : Int) ∧ (↑x7.cap : Int) ≤ (↑x7.cap : Int))
                            (M.sem
                              (Builtin.copy_ #[63, 63] 3
                                #[Value.slice x2.fst.base x2.fst.len x2.fst.cap,
                                  Value.slice
                                    (if (↑x7.cap : Int).toNat = ((wU (x2.snd.fst - x3)).tmod x8).toNat then x7.base
                                    else Option.map (fun x => x.add (((wU (x2.snd.fst - x3)).tmod x8).toNat * 1)) x7.base)
                                    ((↑x7.len : Int).toNat - ((wU (x2.snd.fst - x3)).tmod x8).toNat) ((↑x7.cap : Int).toNat - ((wU (x2.snd.fst - x3)).tmod x8).toNat)])
                              sI fun x9 =>
                              M.guard (0 ≤ x9 ∧ x9 ≤ (↑x2.fst.len : Int) ∧ (↑x2.fst.len : Int) ≤ (↑x2.fst.cap : Int) ∧ (↑x2.fst.cap : Int) ≤ (↑x2.fst.cap : Int))
                                (k1
                                  ({ base := if (↑x2.fst.cap : Int).toNat = x9.toNat then x2.fst.base else Option.map (fun x => x.add (x9.toNat * 1)) x2.fst.base,
                                      len := (↑x2.fst.len : Int).toNat - x9.toNat, cap := (↑x2.fst.cap : Int).toNat - x9.toNat : Sl },
                                    wU (x2.snd.fst + wU x9), ())))))))
    else ret (Value.tuple #[])

theorem nf110_eq {T : Type} (M : Prims T) (a0 : Nat) (a1 : Int) (a2 : Sl) (ret : Value → T) (pan : List PanicEntry → T) :
    funcF M Go.Proofs.Try.prog Go.Proofs.Try.f110 [vP a0, vU a1, Value.slice a2.base a2.len a2.cap] ret pan = nf110 M a0 a1 a2 ret pan := by kernel_rfl

-- 101 (*croft/mem.Space).put (1343 ms)
noncomputable def nf101 {T : Type} (M : Prims T) (a0 : Nat) (a1 : Int) (a2 : Sl) (ret : Value → T) (pan : List PanicEntry → T) : T :=
  M.loop [sS, sU] ({ base := a2.base, len := a2.len, cap := a2.cap : Sl }, a1, ()) fun k1 x2 =>
    bif decide ((↑x2.fst.len : Int) > 0) then
      M.load sU { block := a0, off := 0 : Addr } fun x3 =>
        M.draw
          (M.load sS { block := a0, off := 4 : Addr } fun x4 =>
            M.load sU { block := a0, off := 3 : Addr } fun x5 =>
              M.guard (x5 ≠ 0)
                (M.guard (0 ≤ wU ((wU (x2.snd.fst - x3)).tdiv x5) ∧ wU ((wU (x2.snd.fst - x3)).tdiv x5) < (↑x4.len : Int))
                  (dr M.fail x4.base fun x6 =>
                    M.load sS (x6.add ((wU ((wU (x2.snd.fst - x3)).tdiv x5)).toNat * 1)) fun x7 =>
                      M.load sU { block := a0, off := 3 : Addr } fun x8 =>
                        M.guard (x8 ≠ 0)
                          (M.guard
                            (0 ≤ (wU (x2.snd.fst - x3)).tmod x8 ∧
                              (wU (x2.snd.fst - x3)).tmod x8 ≤ (↑x7.len : Int) ∧ (↑x7.len : Int) ≤ (↑x7.cap : Int) ∧ (↑x7.cap : Int) ≤ (↑x7.cap : Int))
                            (M.sem
                              (Builtin.copy_ #[63, 63] 3
                                #[Value.slice
                                    (if (↑x7.cap : Int).toNat = ((wU (x2.snd.fst - x3)).tmod x8).toNat then x7.base
                                    else Option.map (fun x => x.add (((wU (x2.snd.fst - x3)).tmod x8).toNat * 1)) x7.base)
                                    ((↑x7.len : Int).toNat - ((wU (x2.snd.fst - x3)).tmod x8).toNat) ((↑x7.cap : Int).toNat - ((wU (x2.snd.fst - x3)).tmod x8).toNat),
                                  Value.slice x2.fst.base x2.fst.len x2.fst.cap])
                              sI fun x9 =>
                              M.guard (0 ≤ x9 ∧ x9 ≤ (↑x2.fst.len : Int) ∧ (↑x2.fst.len : Int) ≤ (↑x2.fst.cap : Int) ∧ (↑x2.fst.cap : Int) ≤ (↑x2.fst.cap : Int))
                                (k1
                                  ({ base := if (↑x2.fst.cap : Int).toNat = x9.toNat then x2.fst.base else Option.map (fun x => x.add (x9.toNat * 1)) x2.fst.base,
                                      len := (↑x2.fst.len : Int).toNat - x9.toNat, cap := (↑x2.fst.cap : Int).toNat - x9.toNat : Sl },
                                    wU (x2.snd.fst + wU x9), ())))))))
    else ret (Value.tuple #[])

theorem nf101_eq {T : Type} (M : Prims T) (a0 : Nat) (a1 : Int) (a2 : Sl) (ret : Value → T) (pan : List PanicEntry → T) :
    funcF M Go.Proofs.Try.prog Go.Proofs.Try.f101 [vP a0, vU a1, Value.slice a2.base a2.len a2.cap] ret pan = nf101 M a0 a1 a2 ret pan := by kernel_rfl

-- croft/mem.caught (32 ms)
noncomputable def nf86Nil {T : Type} (M : Prims T) (a1 : Nat) (ret : Value → T) (pan : List PanicEntry → T) : T :=
  ret (Value.tuple #[])

theorem nf86Nil_eq {T : Type} (M : Prims T) (a1 : Nat) (ret : Value → T) (pan : List PanicEntry → T) :
    funcF M Go.Proofs.Try.prog Go.Proofs.Try.f86 [Value.nilIface, vP a1] ret pan = nf86Nil M a1 ret pan := by kernel_rfl

-- croft/mem.caught (204 ms)
noncomputable def nf86Fault {T : Type} (M : Prims T) (a0 : Int) (a1 : Nat) (ret : Value → T) (pan : List PanicEntry → T) : T :=
  M.new 197 [vI 0] fun x1 =>
    M.store { block := x1, off := 0 : Addr } [vI a0]
      (M.join [] (fun x2 => M.load sI { block := x1, off := 0 : Addr } fun x3 => M.store { block := a1, off := 0 : Addr } [vI x3] (ret (Value.tuple #[]))) fun k4 => k4 ())

theorem nf86Fault_eq {T : Type} (M : Prims T) (a0 : Int) (a1 : Nat) (ret : Value → T) (pan : List PanicEntry → T) :
    funcF M Go.Proofs.Try.prog Go.Proofs.Try.f86 [Value.iface 197 (Value.agg #[vI a0]), vP a1] ret pan = nf86Fault M a0 a1 ret pan := by kernel_rfl

-- (*croft/mem.Space).SetWord (344 ms)
noncomputable def nf47 {T : Type} (M : Prims T) (a0 : Nat) (a1 : Int) (a2 : Int) (ret : Value → T) : T :=
  M.new 29 [vI 0] fun x1 =>
    M.call 87 [vP a0, vU a1, vU 8] []
      (fun x2 =>
        M.new 175 [v8 0, v8 0, v8 0, v8 0, v8 0, v8 0, v8 0, v8 0] fun x3 =>
          M.loop [sI] (0, ()) fun k4 x5 =>
            bif decide (x5.fst < 8) then
              M.guard (0 ≤ wI (8 * x5.fst))
                (M.guard (0 ≤ x5.fst ∧ x5.fst < (↑8 : Int))
                  (M.store ({ block := x3, off := 0 : Addr }.add (x5.fst.toNat * 1)) [v8 (IntKind.u8.wrap (a2.fdiv (2 ^ min (wI (8 * x5.fst)).toNat 64)))]
                    (k4 (wI (x5.fst + 1), ()))))
            else
              M.guard ((0 : Int) ≤ 0 ∧ 0 ≤ (↑8 : Int) ∧ (↑8 : Int) ≤ (↑8 : Int) ∧ (↑8 : Int) ≤ (↑8 : Int))
                (M.call 101 [vP a0, vU a1, Value.slice (some { block := x3, off := 0 : Addr }) 8 8] []
                  (fun x6 =>
                    M.store { block := x1, off := 0 : Addr } [vI 0]
                      (M.call 86 [Value.nilIface, vP x1] [] (fun x7 => M.load sI { block := x1, off := 0 : Addr } fun x8 => ret (vI x8)) fun x9 => M.fail))
                  fun x10 =>
                  ifV M.fail (thrown x10) fun x11 =>
                    M.call 86 [x11, vP x1] [] (fun x12 => M.load sI { block := x1, off := 0 : Addr } fun x13 => ret (vI x13)) fun x14 => M.fail))
      fun x15 =>
      ifV M.fail (thrown x15) fun x16 => M.call 86 [x16, vP x1] [] (fun x17 => M.load sI { block := x1, off := 0 : Addr } fun x18 => ret (vI x18)) fun x19 => M.fail

theorem nf47_eq {T : Type} (M : Prims T) (a0 : Nat) (a1 : Int) (a2 : Int) (ret : Value → T) :
    funcD M Go.Proofs.Try.prog 86 Go.Proofs.Try.f47 [vP a0, vU a1, vU a2] ret = nf47 M a0 a1 a2 ret := by kernel_rfl

-- (*croft/mem.Space).Word (393 ms)
noncomputable def nf142 {T : Type} (M : Prims T) (a0 : Nat) (a1 : Int) (ret : Value → T) : T :=
  M.new 29 [vI 0] fun x1 =>
    M.call 87 [vP a0, vU a1, vU 8] []
      (fun x2 =>
        M.new 175 [v8 0, v8 0, v8 0, v8 0, v8 0, v8 0, v8 0, v8 0] fun x3 =>
          M.guard ((0 : Int) ≤ 0 ∧ 0 ≤ (↑8 : Int) ∧ (↑8 : Int) ≤ (↑8 : Int) ∧ (↑8 : Int) ≤ (↑8 : Int))
            (M.call 110 [vP a0, vU a1, Value.slice (some { block := x3, off := 0 : Addr }) 8 8] []
              (fun x4 =>
                M.loop [sU, sI] (0, 0, ()) fun k5 x6 =>
                  bif decide (x6.snd.fst < 8) then
                    M.guard (0 ≤ x6.snd.fst ∧ x6.snd.fst < (↑8 : Int))
                      (M.load s8 ({ block := x3, off := 0 : Addr }.add (x6.snd.fst.toNat * 1)) fun x7 =>
                        M.guard (0 ≤ wI (8 * x6.snd.fst))
                          (k5
                            (wU (↑(BitVec.ofInt 64 x6.fst ||| BitVec.ofInt 64 (wU (wU x7 * 2 ^ min (wI (8 * x6.snd.fst)).toNat 64))).toNat : Int), wI (x6.snd.fst + 1),
                              ())))
                  else
                    M.store { block := x1, off := 0 : Addr } [vI 0]
                      (M.call 86 [Value.nilIface, vP x1] [] (fun x8 => M.load sI { block := x1, off := 0 : Addr } fun x9 => ret (Value.tuple #[vU x6.fst, vI x9]))
                        fun x10 => M.fail))
              fun x11 =>
              ifV M.fail (thrown x11) fun x12 =>
                M.call 86 [x12, vP x1] [] (fun x13 => M.load sI { block := x1, off := 0 : Addr } fun x14 => ret (Value.tuple #[vU 0, vI x14])) fun x15 => M.fail))
      fun x16 =>
      ifV M.fail (thrown x16) fun x17 =>
        M.call 86 [x17, vP x1] [] (fun x18 => M.load sI { block := x1, off := 0 : Addr } fun x19 => ret (Value.tuple #[vU 0, vI x19])) fun x20 => M.fail

theorem nf142_eq {T : Type} (M : Prims T) (a0 : Nat) (a1 : Int) (ret : Value → T) :
    funcD M Go.Proofs.Try.prog 86 Go.Proofs.Try.f142 [vP a0, vU a1] ret = nf142 M a0 a1 ret := by kernel_rfl

-- (*croft/mem.Space).Byte (327 ms)
noncomputable def nf147 {T : Type} (M : Prims T) (a0 : Nat) (a1 : Int) (ret : Value → T) : T :=
  M.new 29 [vI 0] fun x1 =>
    M.call 87 [vP a0, vU a1, vU 1] []
      (fun x2 =>
        M.call 88 [vP a0, vU a1] [sP]
          (fun x3 =>
            dr M.fail x3.fst fun x4 =>
              M.load s8 x4 fun x5 =>
                M.store { block := x1, off := 0 : Addr } [vI 0]
                  (M.call 86 [Value.nilIface, vP x1] [] (fun x6 => M.load sI { block := x1, off := 0 : Addr } fun x7 => ret (Value.tuple #[v8 x5, vI x7])) fun x8 =>
                    M.fail))
          fun x9 =>
          ifV M.fail (thrown x9) fun x10 =>
            M.call 86 [x10, vP x1] [] (fun x11 => M.load sI { block := x1, off := 0 : Addr } fun x12 => ret (Value.tuple #[v8 0, vI x12])) fun x13 => M.fail)
      fun x14 =>
      ifV M.fail (thrown x14) fun x15 =>
        M.call 86 [x15, vP x1] [] (fun x16 => M.load sI { block := x1, off := 0 : Addr } fun x17 => ret (Value.tuple #[v8 0, vI x17])) fun x18 => M.fail

theorem nf147_eq {T : Type} (M : Prims T) (a0 : Nat) (a1 : Int) (ret : Value → T) :
    funcD M Go.Proofs.Try.prog 86 Go.Proofs.Try.f147 [vP a0, vU a1] ret = nf147 M a0 a1 ret := by kernel_rfl

-- (*croft/mem.Space).Fill (344 ms)
noncomputable def nf25 {T : Type} (M : Prims T) (a0 : Nat) (a1 : Int) (a2 : Int) (a3 : Int) (ret : Value → T) : T :=
  M.new 29 [vI 0] fun x1 =>
    M.call 87 [vP a0, vU a1, vU a2] []
      (fun x2 =>
        M.loop [sU, sU] (a1, a2, ()) fun k3 x4 =>
          bif decide (x4.snd.fst > 0) then
            M.call 88 [vP a0, vU x4.fst] [sP] (fun x5 => dr M.fail x5.fst fun x6 => M.store x6 [v8 a3] (k3 (wU (x4.fst + 1), wU (x4.snd.fst - 1), ()))) fun x7 =>
              ifV M.fail (thrown x7) fun x8 => M.call 86 [x8, vP x1] [] (fun x9 => M.load sI { block := x1, off := 0 : Addr } fun x10 => ret (vI x10)) fun x11 => M.fail
          else
            M.store { block := x1, off := 0 : Addr } [vI 0]
              (M.call 86 [Value.nilIface, vP x1] [] (fun x12 => M.load sI { block := x1, off := 0 : Addr } fun x13 => ret (vI x13)) fun x14 => M.fail))
      fun x15 =>
      ifV M.fail (thrown x15) fun x16 => M.call 86 [x16, vP x1] [] (fun x17 => M.load sI { block := x1, off := 0 : Addr } fun x18 => ret (vI x18)) fun x19 => M.fail

theorem nf25_eq {T : Type} (M : Prims T) (a0 : Nat) (a1 : Int) (a2 : Int) (a3 : Int) (ret : Value → T) :
    funcD M Go.Proofs.Try.prog 86 Go.Proofs.Try.f25 [vP a0, vU a1, vU a2, v8 a3] ret = nf25 M a0 a1 a2 a3 ret := by kernel_rfl

-- (*croft/mem.Space).Write (280 ms)
noncomputable def nf62 {T : Type} (M : Prims T) (a0 : Nat) (a1 : Int) (a2 : Sl) (ret : Value → T) : T :=
  M.new 29 [vI 0] fun x1 =>
    M.call 87 [vP a0, vU a1, vU (wU (↑a2.len : Int))] []
      (fun x2 =>
        M.call 101 [vP a0, vU a1, Value.slice a2.base a2.len a2.cap] []
          (fun x3 =>
            M.store { block := x1, off := 0 : Addr } [vI 0]
              (M.call 86 [Value.nilIface, vP x1] [] (fun x4 => M.load sI { block := x1, off := 0 : Addr } fun x5 => ret (vI x5)) fun x6 => M.fail))
          fun x7 =>
          ifV M.fail (thrown x7) fun x8 => M.call 86 [x8, vP x1] [] (fun x9 => M.load sI { block := x1, off := 0 : Addr } fun x10 => ret (vI x10)) fun x11 => M.fail)
      fun x12 =>
      ifV M.fail (thrown x12) fun x13 => M.call 86 [x13, vP x1] [] (fun x14 => M.load sI { block := x1, off := 0 : Addr } fun x15 => ret (vI x15)) fun x16 => M.fail

theorem nf62_eq {T : Type} (M : Prims T) (a0 : Nat) (a1 : Int) (a2 : Sl) (ret : Value → T) :
    funcD M Go.Proofs.Try.prog 86 Go.Proofs.Try.f62 [vP a0, vU a1, Value.slice a2.base a2.len a2.cap] ret = nf62 M a0 a1 a2 ret := by kernel_rfl

-- (*croft/mem.Space).Read (252 ms)
noncomputable def nf63 {T : Type} (M : Prims T) (a0 : Nat) (a1 : Int) (a2 : Int) (ret : Value → T) : T :=
  M.new 29 [vI 0] fun x1 =>
    M.call 87 [vP a0, vU a1, vU a2] []
      (fun x2 =>
        M.sem (Instr.makeSlice 63 (vU a2) (vU a2)) sS fun x3 =>
          M.call 110 [vP a0, vU a1, Value.slice x3.base x3.len x3.cap] []
            (fun x4 =>
              M.store { block := x1, off := 0 : Addr } [vI 0]
                (M.call 86 [Value.nilIface, vP x1] []
                  (fun x5 => M.load sI { block := x1, off := 0 : Addr } fun x6 => ret (Value.tuple #[Value.slice x3.base x3.len x3.cap, vI x6])) fun x7 => M.fail))
            fun x8 =>
            ifV M.fail (thrown x8) fun x9 =>
              M.call 86 [x9, vP x1] [] (fun x10 => M.load sI { block := x1, off := 0 : Addr } fun x11 => ret (Value.tuple #[Value.slice none 0 0, vI x11])) fun x12 =>
                M.fail)
      fun x13 =>
      ifV M.fail (thrown x13) fun x14 =>
        M.call 86 [x14, vP x1] [] (fun x15 => M.load sI { block := x1, off := 0 : Addr } fun x16 => ret (Value.tuple #[Value.slice none 0 0, vI x16])) fun x17 => M.fail

theorem nf63_eq {T : Type} (M : Prims T) (a0 : Nat) (a1 : Int) (a2 : Int) (ret : Value → T) :
    funcD M Go.Proofs.Try.prog 86 Go.Proofs.Try.f63 [vP a0, vU a1, vU a2] ret = nf63 M a0 a1 a2 ret := by kernel_rfl

-- 55 (*croft/mem.Space).Commit (993 ms)
noncomputable def nf55 {T : Type} (M : Prims T) (a0 : Nat) (a1 : Bool) (ret : Value → T) (pan : List PanicEntry → T) : T :=
  M.join [sU, sI]
    (fun x1 =>
      M.call 57 [vP a0] [sU]
        (fun x2 =>
          M.draw
            (M.load sS { block := a0, off := 4 : Addr } fun x3 =>
              M.load sU { block := a0, off := 3 : Addr } fun x4 =>
                M.sem (Instr.makeSlice 63 (vU x4) (vU x4)) sS fun x5 =>
                  M.keep [({ block := a0, off := 4 : Addr }, [Value.slice x3.base x3.len x3.cap])]
                    (M.new 63 [Value.slice x5.base x5.len x5.cap] fun x6 =>
                      M.keep [({ block := a0, off := 4 : Addr }, [Value.slice x3.base x3.len x3.cap])]
                        (M.sem (Builtin.append_ #[157, 157] 157 #[Value.slice x3.base x3.len x3.cap, Value.slice (some { block := x6, off := 0 : Addr }) 1 1]) sS fun x7 =>
                          M.store { block := a0, off := 4 : Addr } [Value.slice x7.base x7.len x7.cap] (ret (Value.tuple #[vU x2.fst, vI 0]))))))
        fun x8 => pan x8)
    fun k9 =>
    M.draw
      (bif a1 then ret (Value.tuple #[vU 0, vI 2])
      else
        M.load sS { block := a0, off := 4 : Addr } fun x10 =>
          M.load sI { block := a0, off := 1 : Addr } fun x11 => bif (↑x10.len : Int) == x11 then ret (Value.tuple #[vU 0, vI 2]) else k9 (0, 0, ()))

theorem nf55_eq {T : Type} (M : Prims T) (a0 : Nat) (a1 : Bool) (ret : Value → T) (pan : List PanicEntry → T) :
    funcF M Go.Proofs.Try.prog Go.Proofs.Try.f55 [vP a0, vB a1] ret pan = nf55 M a0 a1 ret pan := by kernel_rfl

-- 56 (*croft/mem.Space).Decommit (809 ms)
noncomputable def nf56 {T : Type} (M : Prims T) (a0 : Nat) (a1 : Int) (ret : Value → T) (pan : List PanicEntry → T) : T :=
  M.join [sI]
    (fun x1 =>
      M.load sS { block := a0, off := 4 : Addr } fun x2 =>
        M.load sS { block := a0, off := 4 : Addr } fun x3 =>
          M.guard (0 ≤ wI ((↑x2.len : Int) - a1) ∧ wI ((↑x2.len : Int) - a1) ≤ (↑x3.len : Int) ∧ (↑x3.len : Int) ≤ (↑x3.cap : Int) ∧ (↑x3.cap : Int) ≤ (↑x3.cap : Int))
            (M.sem
              (Builtin.clear_ #[157] 0
                #[Value.slice
                    (if (↑x3.cap : Int).toNat = (wI ((↑x2.len : Int) - a1)).toNat then x3.base
                    else Option.map (fun x => x.add ((wI ((↑x2.len : Int) - a1)).toNat * 1)) x3.base)
                    ((↑x3.len : Int).toNat - (wI ((↑x2.len : Int) - a1)).toNat) ((↑x3.cap : Int).toNat - (wI ((↑x2.len : Int) - a1)).toNat)])
              (Shp.one Kind.any) fun x4 =>
              M.load sS { block := a0, off := 4 : Addr } fun x5 =>
                M.guard ((0 : Int) ≤ 0 ∧ 0 ≤ wI ((↑x2.len : Int) - a1) ∧ wI ((↑x2.len : Int) - a1) ≤ (↑x5.cap : Int) ∧ (↑x5.cap : Int) ≤ (↑x5.cap : Int))
                  (M.store { block := a0, off := 4 : Addr }
                    [Value.slice (if (↑x5.cap : Int).toNat = 0 then x5.base else Option.map (fun x => x.add 0) x5.base) ((wI ((↑x2.len : Int) - a1)).toNat - 0)
                        ((↑x5.cap : Int).toNat - 0)]
                    (ret (vI 0)))))
    fun k6 =>
    bif decide (a1 < 0) then ret (vI 1) else M.load sS { block := a0, off := 4 : Addr } fun x7 => bif decide (a1 > (↑x7.len : Int)) then ret (vI 1) else k6 (0, ())

theorem nf56_eq {T : Type} (M : Prims T) (a0 : Nat) (a1 : Int) (ret : Value → T) (pan : List PanicEntry → T) :
    funcF M Go.Proofs.Try.prog Go.Proofs.Try.f56 [vP a0, vI a1] ret pan = nf56 M a0 a1 ret pan := by kernel_rfl

-- 73 croft/mem.New (373 ms)
noncomputable def nf73 {T : Type} (M : Prims T) (a0_0 : Int) (a0_1 : Int) (a0_2 : Int) (ret : Value → T) (pan : List PanicEntry → T) : T :=
  M.new 24 [vU a0_0, vI a0_1, vI a0_2] fun x1 =>
    M.load (Shp.agg [kU, kI, kI]) { block := x1, off := 0 : Addr } fun x2 =>
      M.call 119 [Value.agg #[vU x2.fst, vI x2.snd.fst, vI x2.snd.snd.fst]] [sB]
        (fun x3 =>
          bif !x3.fst then ret (Value.tuple #[Value.pointer none, vI 1])
          else
            M.draw
              (M.load (Shp.agg [kU, kI, kI]) { block := x1, off := 0 : Addr } fun x4 =>
                M.load sI { block := x1, off := 2 : Addr } fun x5 =>
                  M.guard (0 ≤ x5)
                    (M.new 159 [vU x4.fst, vI x4.snd.fst, vI x4.snd.snd.fst, vU (wU (4096 * 2 ^ min x5.toNat 64)), Value.slice none 0 0] fun x6 =>
                      ret (Value.tuple #[vP x6, vI 0]))))
        fun x7 => pan x7

theorem nf73_eq {T : Type} (M : Prims T) (a0_0 : Int) (a0_1 : Int) (a0_2 : Int) (ret : Value → T) (pan : List PanicEntry → T) :
    funcF M Go.Proofs.Try.prog Go.Proofs.Try.f73 [Value.agg #[vU a0_0, vI a0_1, vI a0_2]] ret pan = nf73 M a0_0 a0_1 a0_2 ret pan := by kernel_rfl

-- 119 croft/mem.may (737 ms)
noncomputable def nf119 {T : Type} (M : Prims T) (a0_0 : Int) (a0_1 : Int) (a0_2 : Int) (ret : Value → T) (pan : List PanicEntry → T) : T :=
  M.new 24 [vU a0_0, vI a0_1, vI a0_2] fun x1 =>
    M.join [sB]
      (fun x2 =>
        M.load sI { block := x1, off := 2 : Addr } fun x3 =>
          M.guard (0 ≤ x3)
            (M.load sU { block := x1, off := 0 : Addr } fun x4 =>
              bif x4 != 0 then
                M.load sU { block := x1, off := 0 : Addr } fun x5 =>
                  M.guard (wU (4096 * 2 ^ min x3.toNat 64) ≠ 0)
                    (bif x5.tmod (wU (4096 * 2 ^ min x3.toNat 64)) == 0 then
                      M.load sU { block := x1, off := 0 : Addr } fun x6 =>
                        bif decide (x6 ≤ 9223372036854775808) then
                          M.load sI { block := x1, off := 1 : Addr } fun x7 =>
                            M.load sU { block := x1, off := 0 : Addr } fun x8 =>
                              ret (vB (decide (wU (wU (4096 * 2 ^ min x3.toNat 64) * wU x7) ≤ wU (9223372036854775808 - x8))))
                        else ret (vB false)
                    else ret (vB false))
              else ret (vB false)))
      fun k9 =>
      M.load sI { block := x1, off := 2 : Addr } fun x10 =>
        bif decide (x10 < 0) then ret (vB false)
        else
          M.load sI { block := x1, off := 2 : Addr } fun x11 =>
            bif decide (x11 > 8) then ret (vB false)
            else
              M.load sI { block := x1, off := 1 : Addr } fun x12 =>
                bif decide (x12 < 1) then ret (vB false)
                else
                  M.load sI { block := x1, off := 1 : Addr } fun x13 =>
                    bif decide (x13 > 64) then ret (vB false)
                    else
                      M.load sI { block := x1, off := 1 : Addr } fun x14 =>
                        M.load sI { block := x1, off := 2 : Addr } fun x15 =>
                          M.guard (0 ≤ x15) (bif decide (wI (x14 * 2 ^ min x15.toNat 64) > 1024) then ret (vB false) else k9 (false, ()))

theorem nf119_eq {T : Type} (M : Prims T) (a0_0 : Int) (a0_1 : Int) (a0_2 : Int) (ret : Value → T) (pan : List PanicEntry → T) :
    funcF M Go.Proofs.Try.prog Go.Proofs.Try.f119 [Value.agg #[vU a0_0, vI a0_1, vI a0_2]] ret pan = nf119 M a0_0 a0_1 a0_2 ret pan := by kernel_rfl

end Go.Proofs.Ytdmfnlcbfmahhaa
