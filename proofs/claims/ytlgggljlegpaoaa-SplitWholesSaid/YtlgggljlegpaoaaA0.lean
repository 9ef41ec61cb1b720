/- The configurations of the functions that are walked. -/
import Derived.Test.YtlgggljlegpaoaaE17
import Derived.Test.YtlgggljlegpaoaaProg
import Derived.KernelRfl
namespace Go.Proofs.Ytlgggljlegpaoaa
open Go Go.E Go.Proofs

theorem mixed : Try.prog.follows .mixedOrders = true := by kernel_rfl

noncomputable def cfg3 (w0 : World) : Cfg := { c0 := (Try.f3.body).getD .skip, w0 := w0, live := [0, 4, 9, 1, 2, 3, 11, 13, 10, 12, 8], cnds := [24], stops := [], N := 53 }
noncomputable def cfg4 (w0 : World) : Cfg := { c0 := (Try.f4.body).getD .skip, w0 := w0, live := [1, 2, 0, 4, 5, 7, 9, 11, 8, 10, 6], cnds := [25], stops := [], N := 57 }
noncomputable def cfg5 (w0 : World) : Cfg := { c0 := (Try.f5.body).getD .skip, w0 := w0, live := [0, 5, 11, 1, 2, 3, 13, 12, 15, 14, 17, 19, 4, 21, 20, 23, 10], cnds := [28, 39, 67, 85], stops := [], N := 138 }
noncomputable def cfg6 (w0 : World) : Cfg := { c0 := (Try.f6.body).getD .skip, w0 := w0, live := [0, 1, 4, 5, 9, 2, 3, 10, 11, 13, 12, 15, 8], cnds := [26, 61], stops := [], N := 98 }
noncomputable def cfg7 (w0 : World) : Cfg := { c0 := (Try.f7.body).getD .skip, w0 := w0, live := [1, 2, 4, 3, 0], cnds := [], stops := [], N := 77 }
noncomputable def cfg8 (w0 : World) : Cfg := { c0 := (Try.f8.body).getD .skip, w0 := w0, live := [0, 1, 4, 3, 2, 10, 44, 45, 5, 11, 12, 8, 9], cnds := [13, 26, 38], stops := [], N := 77 }
noncomputable def cfg9 (w0 : World) : Cfg := { c0 := (Try.f9.body).getD .skip, w0 := w0, live := [0, 4, 3, 11, 1, 10, 2, 12, 13, 8, 9], cnds := [25, 29, 31, 36, 57, 65, 71], stops := [], N := 84 }
noncomputable def cfg10 (w0 : World) : Cfg := { c0 := (Try.f10.body).getD .skip, w0 := w0, live := [0, 1, 5, 4], cnds := [10, 14, 26], stops := [], N := 27 }
noncomputable def cfg11 (w0 : World) : Cfg := { c0 := (Try.f11.body).getD .skip, w0 := w0, live := [0, 3, 2], cnds := [6, 10, 18], stops := [], N := 19 }
noncomputable def cfg12 (w0 : World) : Cfg := { c0 := (Try.f12.body).getD .skip, w0 := w0, live := [0, 1, 3, 2], cnds := [31, 36, 46], stops := [], N := 47 }
noncomputable def cfg13 (w0 : World) : Cfg := { c0 := (Try.f13.body).getD .skip, w0 := w0, live := [0, 2, 54, 53, 52, 5, 6, 4, 3], cnds := [35, 55, 70], stops := [], N := 80 }
noncomputable def cfg14 (w0 : World) : Cfg := { c0 := (Try.f14.body).getD .skip, w0 := w0, live := [0, 2, 5, 4, 3], cnds := [35, 56, 73], stops := [], N := 85 }
noncomputable def cfg15 (w0 : World) : Cfg := { c0 := (Try.f15.body).getD .skip, w0 := w0, live := [0, 1, 2, 3, 4], cnds := [], stops := [], N := 33 }
noncomputable def cfg16 (w0 : World) : Cfg := { c0 := (Try.f16.body).getD .skip, w0 := w0, live := [0, 1, 2, 3, 5, 6, 4], cnds := [], stops := [], N := 67 }
noncomputable def cfg17 (w0 : World) : Cfg := { c0 := (Try.f17.body).getD .skip, w0 := w0, live := [0, 1, 2, 3, 4], cnds := [20], stops := [], N := 64 }
noncomputable def cfg18 (w0 : World) : Cfg := { c0 := (Try.f18.body).getD .skip, w0 := w0, live := [0, 1, 3, 2, 4], cnds := [6], stops := [], N := 9 }
noncomputable def cfg19 (w0 : World) : Cfg := { c0 := (Try.f19.body).getD .skip, w0 := w0, live := [0, 2], cnds := [4], stops := [], N := 8 }
noncomputable def cfg20 (w0 : World) : Cfg := { c0 := (Try.f20.body).getD .skip, w0 := w0, live := [0, 1, 2, 3, 5, 6, 7, 4], cnds := [98, 103, 133, 138, 151, 156, 186], stops := [], N := 187 }
noncomputable def cfg21 (w0 : World) : Cfg := { c0 := (Try.f21.body).getD .skip, w0 := w0, live := [4, 1, 2, 0, 5], cnds := [9, 30], stops := [], N := 31 }
noncomputable def cfg22 (w0 : World) : Cfg := { c0 := (Try.f22.body).getD .skip, w0 := w0, live := [0, 1, 5, 4], cnds := [10, 14, 42], stops := [], N := 43 }

end Go.Proofs.Ytlgggljlegpaoaa
