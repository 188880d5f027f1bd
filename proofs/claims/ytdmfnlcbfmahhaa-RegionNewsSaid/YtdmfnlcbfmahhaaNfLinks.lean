import Derived.Test.YtdmfnlcbfmahhaaHlDefer
import Derived.Test.YtdmfnlcbfmahhaaHlGoto
import Derived.Test.YtdmfnlcbfmahhaaProg
import Derived.KernelRfl
namespace Go.Proofs.Ytdmfnlcbfmahhaa
open Go Hl
set_option maxRecDepth 100000
-- 121 croft/links.New (98 ms)
noncomputable def nf121 {T : Type} (M : Prims T) (a0 : Nat) (a1 : Int) (ret : Value → T) (pan : List PanicEntry → T) : T :=
  M.new 202 [vP a0, vU a1] fun x1 => ret (vP x1)

theorem nf121_eq {T : Type} (M : Prims T) (a0 : Nat) (a1 : Int) (ret : Value → T) (pan : List PanicEntry → T) :
    funcF M Go.Proofs.Try.prog Go.Proofs.Try.f121 [vP a0, vU a1] ret pan = nf121 M a0 a1 ret pan := by kernel_rfl

-- 90 (*croft/links.List).Head (82 ms)
noncomputable def nf90 {T : Type} (M : Prims T) (a0 : Nat) (ret : Value → T) (pan : List PanicEntry → T) : T :=
  M.load sU { block := a0, off := 1 : Addr } fun x1 => ret (vU x1)

theorem nf90_eq {T : Type} (M : Prims T) (a0 : Nat) (ret : Value → T) (pan : List PanicEntry → T) :
    funcF M Go.Proofs.Try.prog Go.Proofs.Try.f90 [vP a0] ret pan = nf90 M a0 ret pan := by kernel_rfl

-- 126 (*croft/links.List).links (404 ms)
noncomputable def nf126 {T : Type} (M : Prims T) (a0 : Nat) (a1 : Int) (ret : Value → T) (pan : List PanicEntry → T) : T :=
  M.load sP { block := a0, off := 0 : Addr } fun x1 =>
    M.call 142 [Value.pointer x1, vU a1] [sU, sI]
      (fun x2 =>
        bif x2.snd.fst != 0 then ret (Value.tuple #[vU 0, vU 0, vB false])
        else
          M.load sP { block := a0, off := 0 : Addr } fun x3 =>
            M.call 142 [Value.pointer x3, vU (wU (a1 + 8))] [sU, sI]
              (fun x4 =>
                bif x4.snd.fst == 0 then ret (Value.tuple #[vU x2.fst, vU x4.fst, vB (decide (wU (a1 + 8) > a1))]) else ret (Value.tuple #[vU x2.fst, vU x4.fst, vB false]))
              fun x5 => pan x5)
      fun x6 => pan x6

theorem nf126_eq {T : Type} (M : Prims T) (a0 : Nat) (a1 : Int) (ret : Value → T) (pan : List PanicEntry → T) :
    funcF M Go.Proofs.Try.prog Go.Proofs.Try.f126 [vP a0, vU a1] ret pan = nf126 M a0 a1 ret pan := by kernel_rfl

-- 127 (*croft/links.List).sound (624 ms)
noncomputable def nf127 {T : Type} (M : Prims T) (a0 : Nat) (a1 : Int) (a2 : Int) (a3 : Int) (ret : Value → T) (pan : List PanicEntry → T) : T :=
  M.load sU { block := a0, off := 1 : Addr } fun x1 =>
    bif !(a3 == 0) == (a1 == x1) then ret (vB false)
    else
      M.join [sB]
        (fun x2 =>
          M.join [sB] (fun x3 => ret (vB true)) fun k4 =>
            bif a2 != 0 then
              M.call 126 [vP a0, vU a2] [sU, sU, sB] (fun x5 => bif !x5.snd.snd.fst then ret (vB false) else bif x5.snd.fst != a1 then ret (vB false) else k4 (x2.fst, ()))
                fun x6 => pan x6
            else k4 (x2.fst, ()))
        fun k7 =>
        bif a3 != 0 then
          M.call 126 [vP a0, vU a3] [sU, sU, sB] (fun x8 => bif !x8.snd.snd.fst then ret (vB false) else bif x8.fst != a1 then ret (vB false) else k7 (false, ())) fun x9 =>
            pan x9
        else k7 (false, ())

theorem nf127_eq {T : Type} (M : Prims T) (a0 : Nat) (a1 : Int) (a2 : Int) (a3 : Int) (ret : Value → T) (pan : List PanicEntry → T) :
    funcF M Go.Proofs.Try.prog Go.Proofs.Try.f127 [vP a0, vU a1, vU a2, vU a3] ret pan = nf127 M a0 a1 a2 a3 ret pan := by kernel_rfl

-- 128 (*croft/links.List).Push (1533 ms)
noncomputable def nf128 {T : Type} (M : Prims T) (a0 : Nat) (a1 : Int) (ret : Value → T) (pan : List PanicEntry → T) : T :=
  M.call 126 [vP a0, vU a1] [sU, sU, sB]
    (fun x1 =>
      bif !x1.snd.snd.fst then ret (vI 4)
      else
        M.join [sI]
          (fun x2 =>
            M.draw
              (M.load sP { block := a0, off := 0 : Addr } fun x3 =>
                M.load sU { block := a0, off := 1 : Addr } fun x4 =>
                  M.call 47 [Value.pointer x3, vU a1, vU x4] [sI]
                    (fun x5 =>
                      M.load sP { block := a0, off := 0 : Addr } fun x6 =>
                        M.call 47 [Value.pointer x6, vU (wU (a1 + 8)), vU 0] [sI]
                          (fun x7 =>
                            M.join [] (fun x8 => M.store { block := a0, off := 1 : Addr } [vU a1] (ret (vI 0))) fun k9 =>
                              M.load sU { block := a0, off := 1 : Addr } fun x10 =>
                                bif x10 != 0 then
                                  M.draw
                                    (M.load sP { block := a0, off := 0 : Addr } fun x11 =>
                                      M.load sU { block := a0, off := 1 : Addr } fun x12 =>
                                        M.call 47 [Value.pointer x11, vU (wU (x12 + 8)), vU a1] [sI] (fun x13 => k9 ()) fun x14 => pan x14)
                                else k9 ())
                          fun x15 => pan x15)
                    fun x16 => pan x16))
          fun k17 =>
          M.load sU { block := a0, off := 1 : Addr } fun x18 =>
            bif x18 != 0 then
              M.call 126 [vP a0, vU x18] [sU, sU, sB] (fun x19 => bif !x19.snd.snd.fst then ret (vI 8) else bif x19.snd.fst != 0 then ret (vI 8) else k17 (0, ()))
                fun x20 => pan x20
            else k17 (0, ()))
    fun x21 => pan x21

theorem nf128_eq {T : Type} (M : Prims T) (a0 : Nat) (a1 : Int) (ret : Value → T) (pan : List PanicEntry → T) :
    funcF M Go.Proofs.Try.prog Go.Proofs.Try.f128 [vP a0, vU a1] ret pan = nf128 M a0 a1 ret pan := by kernel_rfl

-- 96 (*croft/links.List).Remove (712 ms)
noncomputable def nf96 {T : Type} (M : Prims T) (a0 : Nat) (a1 : Int) (ret : Value → T) (pan : List PanicEntry → T) : T :=
  M.call 126 [vP a0, vU a1] [sU, sU, sB]
    (fun x1 =>
      bif !x1.snd.snd.fst then ret (vI 4)
      else
        M.call 127 [vP a0, vU a1, vU x1.fst, vU x1.snd.fst] [sB]
          (fun x2 =>
            bif !x2.fst then ret (vI 8)
            else
              M.join []
                (fun x3 =>
                  M.join [] (fun x4 => ret (vI 0)) fun k5 =>
                    bif x1.fst != 0 then
                      M.load sP { block := a0, off := 0 : Addr } fun x6 =>
                        M.call 47 [Value.pointer x6, vU (wU (x1.fst + 8)), vU x1.snd.fst] [sI] (fun x7 => k5 ()) fun x8 => pan x8
                    else k5 ())
                fun k9 =>
                bif x1.snd.fst == 0 then M.store { block := a0, off := 1 : Addr } [vU x1.fst] (k9 ())
                else
                  M.load sP { block := a0, off := 0 : Addr } fun x10 => M.call 47 [Value.pointer x10, vU x1.snd.fst, vU x1.fst] [sI] (fun x11 => k9 ()) fun x12 => pan x12)
          fun x13 => pan x13)
    fun x14 => pan x14

theorem nf96_eq {T : Type} (M : Prims T) (a0 : Nat) (a1 : Int) (ret : Value → T) (pan : List PanicEntry → T) :
    funcF M Go.Proofs.Try.prog Go.Proofs.Try.f96 [vP a0, vU a1] ret pan = nf96 M a0 a1 ret pan := by kernel_rfl

-- 91 (*croft/links.List).Pop (268 ms)
noncomputable def nf91 {T : Type} (M : Prims T) (a0 : Nat) (ret : Value → T) (pan : List PanicEntry → T) : T :=
  M.load sU { block := a0, off := 1 : Addr } fun x1 =>
    bif x1 == 0 then ret (Value.tuple #[vU 0, vI 9])
    else M.call 96 [vP a0, vU x1] [sI] (fun x2 => bif x2.fst != 0 then ret (Value.tuple #[vU 0, vI x2.fst]) else ret (Value.tuple #[vU x1, vI 0])) fun x3 => pan x3

theorem nf91_eq {T : Type} (M : Prims T) (a0 : Nat) (ret : Value → T) (pan : List PanicEntry → T) :
    funcF M Go.Proofs.Try.prog Go.Proofs.Try.f91 [vP a0] ret pan = nf91 M a0 ret pan := by kernel_rfl

end Go.Proofs.Ytdmfnlcbfmahhaa
