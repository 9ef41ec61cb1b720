/- The configurations of the functions that are walked. -/
import Derived.Test.YtaobahddincaiaaE15
import Derived.Test.YtaobahddincaiaaProg
import Derived.KernelRfl
namespace Go.Proofs.Ytaobahddincaiaa
open Go Go.E Go.Proofs

theorem mixed : Try.prog.follows .mixedOrders = true := by kernel_rfl

noncomputable def cfg3 (w0 : World) : Cfg := { c0 := (Try.f3.body).getD .skip, w0 := w0, live := [2, 10, 9, 11, 8, 0, 1, 15, 14, 12, 13, 7, 6], cnds := [22, 28, 31, 55, 65, 78], stops := [], N := 104 }
noncomputable def cfg4 (w0 : World) : Cfg := { c0 := (Try.f4.body).getD .skip, w0 := w0, live := [2, 3, 9, 0, 10, 13, 1, 15, 14, 17, 16, 18, 11, 12, 8], cnds := [27, 38, 42, 46, 72, 87, 96, 148], stops := [], N := 167 }
noncomputable def cfg5 (w0 : World) : Cfg := { c0 := (Try.f5.body).getD .skip, w0 := w0, live := [1, 2, 3, 4, 6, 9, 11, 8, 10, 0], cnds := [], stops := [], N := 91 }
noncomputable def cfg6 (w0 : World) : Cfg := { c0 := (Try.f6.body).getD .skip, w0 := w0, live := [0, 1, 4], cnds := [], stops := [], N := 12 }
noncomputable def cfg7 (w0 : World) : Cfg := { c0 := (Try.f7.body).getD .skip, w0 := w0, live := [0, 1, 5, 4], cnds := [9, 12], stops := [], N := 20 }
noncomputable def cfg8 (w0 : World) : Cfg := { c0 := (Try.f8.body).getD .skip, w0 := w0, live := [2, 0, 1, 8, 5, 9, 35, 34, 11, 12, 10, 6, 7], cnds := [17, 21, 27, 36, 58], stops := [], N := 63 }
noncomputable def cfg9 (w0 : World) : Cfg := { c0 := (Try.f9.body).getD .skip, w0 := w0, live := [0, 1, 6, 4, 7, 5], cnds := [20], stops := [], N := 37 }
noncomputable def cfg10 (w0 : World) : Cfg := { c0 := (Try.f10.body).getD .skip, w0 := w0, live := [0, 1, 5, 4], cnds := [10], stops := [], N := 16 }
noncomputable def cfg11 (w0 : World) : Cfg := { c0 := (Try.f11.body).getD .skip, w0 := w0, live := [0, 1, 4], cnds := [], stops := [], N := 10 }
noncomputable def cfg12 (w0 : World) : Cfg := { c0 := (Try.f12.body).getD .skip, w0 := w0, live := [0, 1, 5, 4], cnds := [10], stops := [], N := 15 }
noncomputable def cfg13 (w0 : World) : Cfg := { c0 := (Try.f13.body).getD .skip, w0 := w0, live := [0, 2], cnds := [], stops := [], N := 18 }
noncomputable def cfg14 (w0 : World) : Cfg := { c0 := (Try.f14.body).getD .skip, w0 := w0, live := [0, 1, 4], cnds := [11], stops := [], N := 14 }
noncomputable def cfg15 (w0 : World) : Cfg := { c0 := (Try.f15.body).getD .skip, w0 := w0, live := [0, 1, 4], cnds := [19], stops := [], N := 26 }
noncomputable def cfg16 (w0 : World) : Cfg := { c0 := (Try.f16.body).getD .skip, w0 := w0, live := [0, 1, 2], cnds := [3, 7], stops := [], N := 12 }
noncomputable def cfg17 (w0 : World) : Cfg := { c0 := (Try.f17.body).getD .skip, w0 := w0, live := [0, 2], cnds := [4], stops := [], N := 8 }
noncomputable def cfg18 (w0 : World) : Cfg := { c0 := (Try.f18.body).getD .skip, w0 := w0, live := [2, 0, 1, 6, 10, 9, 3, 8], cnds := [29, 47], stops := [], N := 71 }
noncomputable def cfg19 (w0 : World) : Cfg := { c0 := (Try.f19.body).getD .skip, w0 := w0, live := [0, 1, 2, 7, 6], cnds := [16], stops := [], N := 33 }
noncomputable def cfg20 (w0 : World) : Cfg := { c0 := (Try.f20.body).getD .skip, w0 := w0, live := [1, 0, 3, 4, 5], cnds := [6, 12], stops := [], N := 44 }
noncomputable def cfg21 (w0 : World) : Cfg := { c0 := (Try.f21.body).getD .skip, w0 := w0, live := [0, 1, 4], cnds := [], stops := [], N := 8 }
noncomputable def cfg22 (w0 : World) : Cfg := { c0 := (Try.f22.body).getD .skip, w0 := w0, live := [1, 0, 5, 4], cnds := [], stops := [], N := 18 }

end Go.Proofs.Ytaobahddincaiaa
