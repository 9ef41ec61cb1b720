/-
  Slices that a walk owns whole ('own': no block, or a block of which it is a stretch with its spare places), and 'append' onto one; the builtin rules.
-/
import Derived.Test.YtlgggljlegpaoaaE11
import Derived.Deep.AppendSrc
import Derived.Room.Entries
namespace Go.E
open Go.RowKit

/-- One or the other. -/
def orr (p q : HP) : HP := ⟨fun h => p.on h ∨ q.on h⟩
theorem Sat.orr {w0 w : World} {p q F : HP} (h : Sat w0 (Go.E.orr p q * F) w) : Sat w0 (p * F) w ∨ Sat w0 (q * F) w := by
  obtain ⟨x, ⟨h1, h2, hd, hh, hp, ⟨h3, h4, hd', hh', ho, hq⟩⟩, hx⟩ := h.holds
  rcases ho with ho | ho
  · exact .inl ⟨h.os, h.tape, h.output, h.size, x, ⟨h1, h2, hd, hh, hp, ⟨h3, h4, hd', hh', ho, hq⟩⟩, hx⟩
  · exact .inr ⟨h.os, h.tape, h.output, h.size, x, ⟨h1, h2, hd, hh, hp, ⟨h3, h4, hd', hh', ho, hq⟩⟩, hx⟩
theorem Ent.inl {p q F : HP} : Ent (p * F) (orr p q * F) := fun _ ⟨h1, h2, hd, hh, hp, hq⟩ => ⟨h1, h2, hd, hh, .inl hp, hq⟩
theorem Ent.inr {p q F : HP} : Ent (q * F) (orr p q * F) := fun _ ⟨h1, h2, hd, hh, hp, hq⟩ => ⟨h1, h2, hd, hh, .inr hp, hq⟩

/-- The stretch of cells l of a block, with what lies ahead and behind. -/
structure Strip where
  b : Nat
  pre : List Value
  spare : List Value
def stripOk (sz : Nat) (base : Option Addr) (n c : Nat) (l : List Value) (s : Strip) : Prop :=
  base = some ⟨s.b, s.pre.length, none⟩ ∧ l.length = n * sz ∧ n ≤ c ∧ s.spare.length = (c - n) * sz ∧ ∀ u ∈ l, Value.one u = true
def own (e : TypeId) (sz : Nat) (base : Option Addr) (n c : Nat) (l : List Value) : HP :=
  orr (pur (base = none ∧ n = 0 ∧ c = 0 ∧ l = [])) (exi fun s : Strip => pur (stripOk sz base n c l s) * pt s.b (.cells (s.pre ++ l ++ s.spare).toArray e (0, 0)))

section
variable {P : Program} {w0 w : World} {F : HP} {e : TypeId} {sz : Nat} {base : Option Addr} {n c : Nat} {l : List Value}

theorem own_cases (h : Sat w0 (own e sz base n c l * F) w) :
    (base = none ∧ n = 0 ∧ c = 0 ∧ l = [] ∧ Sat w0 F w) ∨ ∃ s : Strip, stripOk sz base n c l s ∧ Sat w0 (pt s.b (.cells (s.pre ++ l ++ s.spare).toArray e (0, 0)) * F) w := by
  rcases h.orr with h | h
  · obtain ⟨⟨h1, h2, h3, h4⟩, h5⟩ := h.pure
    exact .inl ⟨h1, h2, h3, h4, h5⟩
  · obtain ⟨s, hs⟩ := h.exi
    rw [star_assoc] at hs
    obtain ⟨h1, h2⟩ := hs.pure
    exact .inr ⟨s, h1, h2⟩
theorem own_nil (h : Sat w0 F w) : Sat w0 (own e sz none 0 0 [] * F) w := (h.toPure (φ := (none : Option Addr) = none ∧ 0 = 0 ∧ 0 = 0 ∧ ([] : List Value) = []) ⟨rfl, rfl, rfl, rfl⟩).ent Ent.inl
theorem own_strip (s : Strip) (h1 : stripOk sz base n c l s) (h : Sat w0 (pt s.b (.cells (s.pre ++ l ++ s.spare).toArray e (0, 0)) * F) w) : Sat w0 (own e sz base n c l * F) w := by
  refine Sat.ent ?_ Ent.inr
  refine Sat.toExi s ?_
  rw [star_assoc]
  exact h.toPure h1
theorem own_len (h : Sat w0 (own e sz base n c l * F) w) : l.length = n * sz ∧ ∀ u ∈ l, Value.one u = true := by
  rcases own_cases h with ⟨_, rfl, _, rfl, _⟩ | ⟨s, ⟨_, h1, _, _, h2⟩, _⟩
  · simp
  · exact ⟨h1, h2⟩

theorem setL_eq {α : Type} : ∀ (vs cs : List α) (off : Nat), off + vs.length ≤ cs.length → setL cs off vs = cs.take off ++ vs ++ cs.drop (off + vs.length)
  | [], cs, off, _ => by simp [setL]
  | v :: r, cs, off, h => by
    simp only [List.length_cons] at h
    rw [setL, setL_eq r (cs.set off v) (off + 1) (by simp; omega)]
    have h1 : (cs.set off v).take (off + 1) = cs.take off ++ [v] := by
      rw [List.take_add_one, List.take_set_of_le (Nat.le_refl _), List.getElem?_set_self (by omega)]
      rfl
    have h2 : (cs.set off v).drop (off + 1 + r.length) = cs.drop (off + (r.length + 1)) := by
      rw [List.drop_set_of_lt (by omega)]; congr 1; omega
    rw [h1, h2]; simp

theorem one_oneCell (u : Value) : Value.one u = u.oneCell' := by cases u <;> rfl

theorem zeroCells_length (z : Array Value) (k : Nat) : (Builtin.zeroCells z k).toList.length = k * z.size := by simp [Builtin.zeroCells]

/-- The cells of a stretch, read. -/
theorem strip_cell {s : Strip} (h : w.heap[s.b]? = some (.cells (s.pre ++ l ++ s.spare).toArray e (0, 0))) : ∀ j u, l[j]? = some u → w.cell? ((⟨s.b, s.pre.length, none⟩ : Addr).add j) = some u := by
  intro j u hj
  have hlt : j < l.length := (List.getElem?_eq_some_iff.1 hj).1
  rw [Addr.add_lit, cell_of_heap h]
  rw [List.getElem?_toArray, List.append_assoc, List.getElem?_append_right (by omega), List.getElem?_append_left (by omega)]
  rw [← hj]; congr 1; omega

theorem own_append {t tx ty : TypeId} {i : TypeInfo} {z x : Value} {m : Nat} {news : List Value} (ht : P.underlying t = some (.slice e)) (hi : P.info? e = some i) (hz : i.zero = some z) (hsz : i.size = sz) (hzs : z.cells.size = sz)
    (hs : Sat w0 (own e sz base n c l * F) w) (hx : Src P sz tx x m news w) (hb : (n + m) * i.bytes ≤ 140737488355328) (hnm : n + m ≤ 4611686018427387904) :
    ∃ base' c' w', (Builtin.append_ #[t, tx] ty #[.slice base n c, x]).run P w = .ok (.slice base' (n + m) c') w' ∧ Sat w0 (own e sz base' (n + m) c' (l ++ news) * F) w' := by
  have hnews : ∀ u ∈ news, Value.one u = true := fun u hu => (one_oneCell u).trans (hx.one u hu)
  have hold : ∀ (hold : (Builtin.firstCells i.size n (.slice base n c)).run P w.drew = .ok l.toArray w.drew) (hg : c < n + m) (hl : l.length = n * sz ∧ ∀ u ∈ l, Value.one u = true),
      ∃ base' c' w', (Builtin.append_ #[t, tx] ty #[.slice base n c, x]).run P w = .ok (.slice base' (n + m) c') w' ∧ Sat w0 (own e sz base' (n + m) c' (l ++ news) * F) w' := by
    intro hold hg hl
    have hfit : Builtin.nextslicecap (n + m) c * i.bytes ≤ 281474976710656 := by
      have h1 : Builtin.nextslicecap (n + m) c * i.bytes ≤ 2 * (n + m) * i.bytes := Nat.mul_le_mul_right _ (Go.Room.nextslicecap_le' hg)
      rw [Nat.mul_assoc] at h1; omega
    have hrun := run_append_grow_src (P := P) w t tx ty e i z ht hi hz base n c l hold x m news (hsz ▸ hx) hg (by omega) hfit
    refine ⟨_, _, _, hrun, ?_⟩
    have hge := grownCap_ge w (n + m) c e
    have hs2 : Sat w0 F w.drew := (hs.drew).right
    refine own_strip ⟨w.heap.size, [], (Builtin.zeroCells z.cells (grownCap w (n + m) c e - (n + m))).toList⟩ ⟨rfl, ?_, hge, ?_, ?_⟩ ?_
    · rw [List.length_append, hl.1, hx.newsLen, Nat.add_mul]
    · rw [zeroCells_length, hzs]
    · intro u hu
      rcases List.mem_append.1 hu with hu | hu
      · exact hl.2 u hu
      · exact hnews u hu
    · have := hs2.alloc (o := .cells ((l ++ news).toArray ++ Builtin.zeroCells z.cells (grownCap w (n + m) c e - (n + m))) e)
      refine this.eq ?_
      congr 2
      congr 1
      apply Array.toList_inj.1; simp
  rcases own_cases hs with ⟨rfl, rfl, rfl, rfl, hF⟩ | ⟨s, ⟨rfl, h1, h2, h3, h4⟩, hF⟩
  · by_cases hm : m = 0
    · subst hm
      have hn0 : news = [] := List.length_eq_zero_iff.1 (by rw [hx.newsLen]; simp)
      subst hn0
      have hc := hx.cells
      refine ⟨none, 0, w, ?_, hs⟩
      rcases hx.kind with ⟨e', hk⟩ | hk <;> simp [Builtin.append_, run_underlying ht, run_underlying hk, sizeOf, typeInfo, hi, hx.len, hsz, hc]
    · exact hold (by rw [run_firstCells_none]) (by omega) (by simp)
  · have hh := hF.get
    by_cases hg : c < n + m
    · refine hold ?_ hg ⟨h1, h4⟩
      rw [hsz]
      refine run_firstCells_some w.drew sz n _ n c l h1 fun j u hj => ?_
      exact strip_cell (w := w.drew) (e := e) hh j u hj
    · have hroom : n + m ≤ c := by omega
      have hle : m * sz ≤ s.spare.length := by rw [h3]; exact Nat.mul_le_mul_right _ (by omega)
      have hlen : s.pre.length + n * sz + 0 + news.length ≤ (s.pre ++ l ++ s.spare).toArray.size := by
        simp only [List.size_toArray, List.length_append, h1, hx.newsLen]; omega
      obtain ⟨w', hr, hb', hk, e1, e2, e3, e4⟩ := storeCells_run (P := P) (vs := news) (off := s.pre.length + n * sz) (i := 0) hh hnews hlen
      refine ⟨some ⟨s.b, s.pre.length, none⟩, c, w', ?_, ?_⟩
      · have hc := hx.cells
        rcases hx.kind with ⟨e', hk'⟩ | hk' <;> simp [Builtin.append_, run_underlying ht, run_underlying hk', sizeOf, typeInfo, hi, hx.len, hsz, hc, hroom, Addr.add_lit, hr]
      · refine own_strip ⟨s.b, s.pre, s.spare.drop (m * sz)⟩ ⟨rfl, ?_, hroom, ?_, ?_⟩ ?_
        · rw [List.length_append, h1, hx.newsLen, Nat.add_mul]
        · rw [List.length_drop, h3, ← Nat.sub_mul]; congr 1; omega
        · intro u hu
          rcases List.mem_append.1 hu with hu | hu
          · exact h4 u hu
          · exact hnews u hu
        · refine hF.set ?_ hk e1 e2 e3 (by omega)
          rw [hb']
          congr 2
          apply Array.toList_inj.1
          simp only [Nat.add_zero]
          rw [setL_eq _ _ _ (by simpa [h1, hx.newsLen] using by have := hlen; simp [h1, hx.newsLen] at this; omega)]
          rw [List.take_append_of_le_length (by simp [h1])]
          rw [List.take_of_length_le (by simp [h1])]
          rw [show s.pre.length + n * sz + news.length = (s.pre ++ l).length + m * sz by simp [h1, hx.newsLen]; ]
          rw [List.drop_append]
          simp [List.append_assoc]

end
end Go.E
