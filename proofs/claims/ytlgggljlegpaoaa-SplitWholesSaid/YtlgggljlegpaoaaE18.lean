/-
  What comes in, opened: slices of octets and of numbers, rows of structs: what may be read of them.
-/
import Derived.Test.YtlgggljlegpaoaaE17
import Derived.ChangeSlices
import Derived.ChangeOld
import Derived.DataReads
import Derived.WideShapes
namespace Go.E
open Go.RowKit Go.ChangeShapes Go.WideShapes

section
variable {H : Type} {enc : TypeId × Value → H} {P : Program} {w : World} {base : Nat} {spare : Nat → Bool} {held : Bool}

theorem block_lt {a : Addr} {v : Value} (h : w.cell? a = some v) : a.block < w.heap.size := by
  unfold World.cell? at h
  cases hb : w.heap[a.block]? with
  | none => rw [hb] at h; simp at h
  | some o => exact (Array.getElem?_eq_some_iff.1 hb).1

/-- A slice of numbers, where it came in. -/
structure IntsIn (w : World) (k : IntKind) (b : Option Addr) (n c : Nat) (zs : List Int) : Prop where
  rd : Rd w b (zs.map (Value.int k))
  len : zs.length = n
  nil : b = none → n = 0
  cap : n ≤ c
  big : c ≤ maxLen
  wf : ∀ z ∈ zs, (Lit.int k z).wf = true

theorem ints_in {t e : TypeId} {k : IntKind} {fuel : Nat} {cs : List Value} {x : DataW H × List MemPlace} (ht : P.underlying t = some (.slice e)) (he : P.underlying e = some (.int k)) (hc : P.cellsOf e = 1)
    (h : DataW.trod enc P w base spare held fuel t cs = some x) : ∃ b n c zs, cs = [.slice b n c] ∧ IntsIn w k b n c zs := by
  rcases open_ints ht he hc h with ⟨hcs, _⟩ | ⟨a, l, c, zs, hcs, _, hl, hm, hz, _, hcell, hwz⟩
  · exact ⟨none, 0, 0, [], hcs, .inl rfl, rfl, fun _ => rfl, Nat.le_refl _, Nat.zero_le _, by simp⟩
  · refine ⟨some a, l, c, zs.take l, hcs, ?_, ?_, (fun h => by cases h), hl, hm, fun z hz => hwz z (List.mem_of_mem_take hz)⟩
    · by_cases h0 : zs = []
      · subst h0; exact .inl (by simp)
      · refine .inr ⟨a, rfl, ?_, fun j u hj => ?_⟩
        · have := hcell 0 (List.length_pos_iff.2 h0)
          have := block_lt this
          rwa [Addr.add_block] at this
        · simp only [List.getElem?_map, List.getElem?_take] at hj
          split at hj
          · obtain ⟨z, hz1, rfl⟩ := Option.map_eq_some_iff.1 hj
            have hlt := (List.getElem?_eq_some_iff.1 hz1).1
            rw [hcell j hlt]
            simp [List.getD, hz1]
          · cases hj
    · simp only [List.length_take]
      split at hz <;> omega

theorem IntsIn.one {k : IntKind} {b : Option Addr} {n c : Nat} {zs : List Int} (_ : IntsIn w k b n c zs) : ∀ u ∈ zs.map (Value.int k), Value.one u = true := by simp [Value.one]

/-- A slice of any elements: the rows of cells, one behind another. -/
theorem rows_in {t e : TypeId} {fuel : Nat} {cs : List Value} {x : DataW H × List MemPlace} (ht : P.underlying t = some (.slice e)) (h : DataW.trod enc P w base spare held fuel t cs = some x) :
    ∃ (b : Option Addr) (n c : Nat) (rows : List (List Value)), cs = [.slice b n c] ∧ rows.length = n ∧ (b = none → n = 0) ∧ n ≤ c ∧ c ≤ maxLen ∧ (∀ r ∈ rows, r.length = P.cellsOf e ∧ ∃ m y, DataW.trod enc P w base spare held m e r = some y) ∧ Rd w b rows.flatten := by
  rcases DataW.trod_slice ht h with ⟨rfl, _⟩ | ⟨a, len, cap, elems, rest, m, _, rfl, _, hb, hl, hm, hlen, hel, _⟩
  · exact ⟨none, 0, 0, [], rfl, rfl, fun _ => rfl, Nat.le_refl _, Nat.zero_le _, by simp, .inl rfl⟩
  have each : ∀ i, i < len → ∃ r y, w.cells? base (a.add (i * P.cellsOf e)) (P.cellsOf e) = some r ∧ DataW.trod enc P w base spare held m e r = some y := fun i hi => by
    have h1 := hel i hi
    rw [List.getElem?_eq_getElem (by omega)] at h1
    obtain ⟨r, h2, h3⟩ := Option.bind_eq_some_iff.1 h1
    exact ⟨r, _, h2, h3⟩
  have many : ∀ k, k ≤ len → ∃ rows : List (List Value), rows.length = k ∧ (∀ r ∈ rows, r.length = P.cellsOf e ∧ ∃ m y, DataW.trod enc P w base spare held m e r = some y) ∧ ∀ j u, rows.flatten[j]? = some u → w.cell? (a.add j) = some u := by
    intro k
    induction k with
    | zero => exact fun _ => ⟨[], rfl, by simp, by simp⟩
    | succ k ih =>
      intro hk
      obtain ⟨rows, g1, g2, g3⟩ := ih (by omega)
      obtain ⟨r, y, h1, h2⟩ := each k (by omega)
      obtain ⟨_, hrl, hrc⟩ := World.cells?_some h1
      have hfl : rows.flatten.length = k * P.cellsOf e := by
        have : ∀ (l : List (List Value)), (∀ r ∈ l, r.length = P.cellsOf e) → l.flatten.length = l.length * P.cellsOf e := by
          intro l
          induction l with
          | nil => intro _; simp
          | cons x l ih => intro hx; simp only [List.flatten_cons, List.length_append, List.length_cons, ih fun r hr => hx r (by simp [hr]), hx x (by simp), Nat.succ_mul]; omega
        rw [this rows fun r hr => (g2 r hr).1, g1]
      refine ⟨rows ++ [r], by simp [g1], fun q hq => ?_, fun j u hj => ?_⟩
      · rcases List.mem_append.1 hq with hq | hq
        · exact g2 q hq
        · simp at hq; subst hq; exact ⟨hrl, m, y, h2⟩
      · simp only [List.flatten_append, List.flatten_cons, List.flatten_nil, List.append_nil] at hj
        by_cases hlt : j < rows.flatten.length
        · rw [List.getElem?_append_left hlt] at hj; exact g3 j u hj
        · rw [List.getElem?_append_right (by omega)] at hj
          have hlt2 := (List.getElem?_eq_some_iff.1 hj).1
          have := hrc (j - rows.flatten.length) (by omega)
          rw [Addr.add_add, hj] at this
          rwa [show k * P.cellsOf e + (j - rows.flatten.length) = j by omega] at this
  obtain ⟨rows, g1, g2, g3⟩ := many len (Nat.le_refl _)
  refine ⟨some a, len, cap, rows, rfl, g1, (fun h => by cases h), hl, hm, g2, ?_⟩
  by_cases h0 : rows.flatten = []
  · exact .inl h0
  · refine .inr ⟨a, rfl, ?_, g3⟩
    have := g3 0 _ (List.getElem?_eq_getElem (List.length_pos_iff.2 h0))
    have := block_lt this
    rwa [Addr.add_block] at this

end
end Go.E
