/- Layer 13: what the bits of a chunk's flags are. -/
import Derived.Test.YtlgggljlegpaoaaA12
namespace Go.Proofs.Ytlgggljlegpaoaa
open Go Go.E Go.Proofs

def fl2 (f : Int) : Int := (IntKind.u8.wrap (f.tdiv 2)).tmod 2
def fl4 (f : Int) : Int := (IntKind.u8.wrap (f.tdiv 4)).tmod 2
set_option maxRecDepth 100000 in
theorem flags_all : ∀ k : Fin 256, (fl2 (k.1 : Int) == 0) = (band k.1 2 == 0) ∧ ((k.1 : Int).tmod 2 == 0) = (band k.1 1 == 0) ∧ (fl4 k.1 == 1) = (band k.1 4 != 0) := by decide +kernel
set_option maxRecDepth 100000 in
theorem flags_two : ∀ a b : Fin 256, (band (ibits .xor .u8 (a.1 : Int) (b.1 : Int)) 4 == 0) = (fl4 a.1 == fl4 b.1) := by decide +kernel
theorem flag_fin {f : Int} (h : 0 ≤ f ∧ f ≤ 255) : ∃ k : Fin 256, (k.1 : Int) = f := ⟨⟨f.toNat, by omega⟩, by show ((f.toNat : Nat) : Int) = f; omega⟩
theorem flag_2 {f : Int} (h : 0 ≤ f ∧ f ≤ 255) : (fl2 f == 0) = (band f 2 == 0) := by obtain ⟨k, rfl⟩ := flag_fin h; exact (flags_all k).1
theorem flag_1 {f : Int} (h : 0 ≤ f ∧ f ≤ 255) : (f.tmod 2 == 0) = (band f 1 == 0) := by obtain ⟨k, rfl⟩ := flag_fin h; exact (flags_all k).2.1
theorem flag_4 {f : Int} (h : 0 ≤ f ∧ f ≤ 255) : (fl4 f == 1) = (band f 4 != 0) := by obtain ⟨k, rfl⟩ := flag_fin h; exact (flags_all k).2.2
theorem flag_x {f g : Int} (h : 0 ≤ f ∧ f ≤ 255) (h' : 0 ≤ g ∧ g ≤ 255) : (band (ibits .xor .u8 f g) 4 == 0) = (fl4 f == fl4 g) := by obtain ⟨k, rfl⟩ := flag_fin h; obtain ⟨j, rfl⟩ := flag_fin h'; exact flags_two k j

end Go.Proofs.Ytlgggljlegpaoaa
