/- Layer 13: a message that came in, opened. -/
import Derived.Test.YtlgggljlegpaoaaA7
import Derived.Test.YtlgggljlegpaoaaE18
import Derived.Lib.SmallJoins
import Derived.OpenShut
namespace Go.Proofs.Ytlgggljlegpaoaa
open Go Go.E Go.Proofs Go.ChangeShapes Go.WideShapes Go.ChangeAt Go.RowKit

theorem msg_in {H : Type} {enc : TypeId × Value → H} {w : World} {r : Reach} {b0 base : Nat} {spare : Nat → Bool} {held : Bool} {v : Value} {d : DataW H} {p : List MemPlace} (hv : Value.okWide Try.prog w r b0 26 v)
    (h : DataW.Trod enc Try.prog w base spare held 26 v d p) : ∃ m : Msg, v = m.val ∧ m.In w := by
  obtain ⟨v0, v1, v2, v3, y0, y1, y2, y3, n, rfl, _, _, h0, h1, h2, h3⟩ := Joins.open_agg4 Try.underlying26 (by kernel_rfl) (by kernel_rfl) hv h
  obtain ⟨z0, e0, _, _⟩ := DataW.trod_int Try.underlying22 h0
  obtain ⟨z1, e1, _⟩ := DataW.trod_bool Try.underlying4 h1
  obtain ⟨z2, e2, _, _⟩ := DataW.trod_int Try.underlying23 h2
  obtain ⟨b, k, c, zs, e3, hi⟩ := ints_in Try.underlying24 Try.underlying5 (by kernel_rfl) h3
  cases e0; cases e1; cases e2; cases e3
  refine ⟨⟨z0, z1, z2, b, k, c, zs⟩, rfl, ⟨⟨hi.rd, hi.len, hi.nil⟩, hi.cap, ?_⟩⟩
  have := hi.big
  unfold maxLen at this
  show c ≤ 9223372036854775807
  omega

end Go.Proofs.Ytlgggljlegpaoaa
