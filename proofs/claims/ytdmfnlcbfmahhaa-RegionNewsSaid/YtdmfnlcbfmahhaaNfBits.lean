import Derived.Test.YtdmfnlcbfmahhaaHlDefer
import Derived.Test.YtdmfnlcbfmahhaaHlGoto
import Derived.Test.YtdmfnlcbfmahhaaProg
import Derived.KernelRfl
namespace Go.Proofs.Ytdmfnlcbfmahhaa
open Go Hl
set_option maxRecDepth 100000
-- 140 croft/bits.fit (27 ms)
noncomputable def nf140 {T : Type} (M : Prims T) (a0 : Int) (ret : Value → T) (pan : List PanicEntry → T) : T :=
  ret
    (Value.tuple
      #[vI (if (if 1048576 < a0 then 1048576 else a0) > 0 then if 1048576 < a0 then 1048576 else a0 else 0),
        vI (wI ((wI ((if (if 1048576 < a0 then 1048576 else a0) > 0 then if 1048576 < a0 then 1048576 else a0 else 0) + 63)).tdiv 64))])

theorem nf140_eq {T : Type} (M : Prims T) (a0 : Int) (ret : Value → T) (pan : List PanicEntry → T) :
    funcF M Go.Proofs.Try.prog Go.Proofs.Try.f140 [vI a0] ret pan = nf140 M a0 ret pan := by kernel_rfl

-- 124 croft/bits.Of (304 ms)
noncomputable def nf124 {T : Type} (M : Prims T) (a0 : Sl) (a1 : Int) (ret : Value → T) (pan : List PanicEntry → T) : T :=
  M.call 140 [vI a1] [sI, sI]
    (fun x1 =>
      M.sem (Instr.makeSlice 59 (vI x1.snd.fst) (vI x1.snd.fst)) sS fun x2 =>
        M.new 208 [vI x1.fst, Value.slice x2.base x2.len x2.cap] fun x3 =>
          M.load sS { block := x3, off := 1 : Addr } fun x4 =>
            M.sem (Builtin.copy_ #[59, 59] 3 #[Value.slice x4.base x4.len x4.cap, Value.slice a0.base a0.len a0.cap]) sI fun x5 =>
              M.call 141 [vP x3] [] (fun x6 => ret (vP x3)) fun x7 => pan x7)
    fun x8 => pan x8

theorem nf124_eq {T : Type} (M : Prims T) (a0 : Sl) (a1 : Int) (ret : Value → T) (pan : List PanicEntry → T) :
    funcF M Go.Proofs.Try.prog Go.Proofs.Try.f124 [Value.slice a0.base a0.len a0.cap, vI a1] ret pan = nf124 M a0 a1 ret pan := by kernel_rfl

-- 141 (*croft/bits.Set).cut (799 ms)
noncomputable def nf141 {T : Type} (M : Prims T) (a0 : Nat) (ret : Value → T) (pan : List PanicEntry → T) : T :=
  M.load sI { block := a0, off := 0 : Addr } fun x1 =>
    bif x1.tmod 64 != 0 then
      M.draw
        (M.load sS { block := a0, off := 1 : Addr } fun x2 =>
          M.load sS { block := a0, off := 1 : Addr } fun x3 =>
            M.guard (0 ≤ wI ((↑x3.len : Int) - 1) ∧ wI ((↑x3.len : Int) - 1) < (↑x2.len : Int))
              (dr M.fail x2.base fun x4 =>
                M.load sU (x4.add ((wI ((↑x3.len : Int) - 1)).toNat * 1)) fun x5 =>
                  M.load sI { block := a0, off := 0 : Addr } fun x6 =>
                    M.guard (0 ≤ x6.tmod 64)
                      (M.guard (0 ≤ wI ((↑x3.len : Int) - 1) ∧ wI ((↑x3.len : Int) - 1) < (↑x2.len : Int))
                        (dr M.fail x2.base fun x7 =>
                          M.store (x7.add ((wI ((↑x3.len : Int) - 1)).toNat * 1))
                            [vU (wU (↑(BitVec.ofInt 64 x5 &&& BitVec.ofInt 64 (wU (wU (1 * 2 ^ min (x6.tmod 64).toNat 64) - 1))).toNat : Int))] (ret (Value.tuple #[]))))))
    else ret (Value.tuple #[])

theorem nf141_eq {T : Type} (M : Prims T) (a0 : Nat) (ret : Value → T) (pan : List PanicEntry → T) :
    funcF M Go.Proofs.Try.prog Go.Proofs.Try.f141 [vP a0] ret pan = nf141 M a0 ret pan := by kernel_rfl

-- 120 croft/bits.NewSet (103 ms)
noncomputable def nf120 {T : Type} (M : Prims T) (a0 : Int) (ret : Value → T) (pan : List PanicEntry → T) : T :=
  M.call 124 [Value.slice none 0 0, vI a0] [sP] (fun x1 => ret (Value.pointer x1.fst)) fun x2 => pan x2

theorem nf120_eq {T : Type} (M : Prims T) (a0 : Int) (ret : Value → T) (pan : List PanicEntry → T) :
    funcF M Go.Proofs.Try.prog Go.Proofs.Try.f120 [vI a0] ret pan = nf120 M a0 ret pan := by kernel_rfl

-- 133 (*croft/bits.Set).Resize (230 ms)
noncomputable def nf133 {T : Type} (M : Prims T) (a0 : Nat) (a1 : Int) (ret : Value → T) (pan : List PanicEntry → T) : T :=
  M.load sS { block := a0, off := 1 : Addr } fun x1 =>
    M.call 124 [Value.slice x1.base x1.len x1.cap, vI a1] [sP]
      (fun x2 =>
        dr M.fail x2.fst fun x3 =>
          M.load (Shp.agg [kI, Kind.slice]) x3 fun x4 =>
            M.store { block := a0, off := 0 : Addr } [vI x4.fst, Value.slice x4.snd.fst.base x4.snd.fst.len x4.snd.fst.cap] (ret (Value.tuple #[])))
      fun x5 => pan x5

theorem nf133_eq {T : Type} (M : Prims T) (a0 : Nat) (a1 : Int) (ret : Value → T) (pan : List PanicEntry → T) :
    funcF M Go.Proofs.Try.prog Go.Proofs.Try.f133 [vP a0, vI a1] ret pan = nf133 M a0 a1 ret pan := by kernel_rfl

-- 131 (*croft/bits.Set).has (112 ms)
noncomputable def nf131 {T : Type} (M : Prims T) (a0 : Nat) (a1 : Int) (ret : Value → T) (pan : List PanicEntry → T) : T :=
  bif decide (a1 ≥ 0) then M.load sI { block := a0, off := 0 : Addr } fun x1 => ret (vB (decide (a1 < x1))) else ret (vB false)

theorem nf131_eq {T : Type} (M : Prims T) (a0 : Nat) (a1 : Int) (ret : Value → T) (pan : List PanicEntry → T) :
    funcF M Go.Proofs.Try.prog Go.Proofs.Try.f131 [vP a0, vI a1] ret pan = nf131 M a0 a1 ret pan := by kernel_rfl

-- 132 (*croft/bits.Set).Get (245 ms)
noncomputable def nf132 {T : Type} (M : Prims T) (a0 : Nat) (a1 : Int) (ret : Value → T) (pan : List PanicEntry → T) : T :=
  M.call 131 [vP a0, vI a1] [sB]
    (fun x1 =>
      bif x1.fst then
        M.load sS { block := a0, off := 1 : Addr } fun x2 =>
          M.guard (0 ≤ wI (a1.tdiv 64) ∧ wI (a1.tdiv 64) < (↑x2.len : Int))
            (dr M.fail x2.base fun x3 =>
              M.load sU (x3.add ((wI (a1.tdiv 64)).toNat * 1)) fun x4 =>
                M.guard (0 ≤ a1.tmod 64) (ret (vB (wU (↑(BitVec.ofInt 64 (x4.fdiv (2 ^ min (a1.tmod 64).toNat 64)) &&& BitVec.ofInt 64 1).toNat : Int) == 1))))
      else ret (vB false))
    fun x5 => pan x5

theorem nf132_eq {T : Type} (M : Prims T) (a0 : Nat) (a1 : Int) (ret : Value → T) (pan : List PanicEntry → T) :
    funcF M Go.Proofs.Try.prog Go.Proofs.Try.f132 [vP a0, vI a1] ret pan = nf132 M a0 a1 ret pan := by kernel_rfl

-- 104 (*croft/bits.Set).Flip (411 ms)
noncomputable def nf104 {T : Type} (M : Prims T) (a0 : Nat) (a1 : Int) (ret : Value → T) (pan : List PanicEntry → T) : T :=
  M.call 131 [vP a0, vI a1] [sB]
    (fun x1 =>
      bif !x1.fst then ret (vB false)
      else
        M.draw
          (M.load sS { block := a0, off := 1 : Addr } fun x2 =>
            M.guard (0 ≤ wI (a1.tdiv 64) ∧ wI (a1.tdiv 64) < (↑x2.len : Int))
              (dr M.fail x2.base fun x3 =>
                M.load sU (x3.add ((wI (a1.tdiv 64)).toNat * 1)) fun x4 =>
                  M.guard (0 ≤ a1.tmod 64)
                    (M.guard (0 ≤ wI (a1.tdiv 64) ∧ wI (a1.tdiv 64) < (↑x2.len : Int))
                      (dr M.fail x2.base fun x5 =>
                        M.store (x5.add ((wI (a1.tdiv 64)).toNat * 1))
                          [vU (wU (↑(BitVec.ofInt 64 x4 ^^^ BitVec.ofInt 64 (wU (1 * 2 ^ min (a1.tmod 64).toNat 64))).toNat : Int))] (ret (vB true)))))))
    fun x6 => pan x6

theorem nf104_eq {T : Type} (M : Prims T) (a0 : Nat) (a1 : Int) (ret : Value → T) (pan : List PanicEntry → T) :
    funcF M Go.Proofs.Try.prog Go.Proofs.Try.f104 [vP a0, vI a1] ret pan = nf104 M a0 a1 ret pan := by kernel_rfl

-- 134 (*croft/bits.Set).Words (122 ms)
noncomputable def nf134 {T : Type} (M : Prims T) (a0 : Nat) (ret : Value → T) (pan : List PanicEntry → T) : T :=
  M.load sS { block := a0, off := 1 : Addr } fun x1 =>
    M.sem (Builtin.append_ #[59, 59] 59 #[Value.slice none 0 0, Value.slice x1.base x1.len x1.cap]) sS fun x2 => ret (Value.slice x2.base x2.len x2.cap)

theorem nf134_eq {T : Type} (M : Prims T) (a0 : Nat) (ret : Value → T) (pan : List PanicEntry → T) :
    funcF M Go.Proofs.Try.prog Go.Proofs.Try.f134 [vP a0] ret pan = nf134 M a0 ret pan := by kernel_rfl

end Go.Proofs.Ytdmfnlcbfmahhaa
