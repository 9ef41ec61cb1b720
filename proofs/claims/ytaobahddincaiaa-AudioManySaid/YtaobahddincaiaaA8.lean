/- Layer 20: what many packets of two speakers come to, in plain numbers. -/
import Derived.Test.YtaobahddincaiaaA7
namespace Go.Proofs.Ytaobahddincaiaa
open Go Go.E Go.Proofs

def sq (a : Int) (m i : Nat) : Int := IntKind.u16.wrap (a + IntKind.u16.wrap (m * i : Nat))
/-- A speaker's state behind i packets, the numbers rising by m. -/
def spk (a : Int) (m i : Nat) : Spk := match i with
  | 0 => ⟨false, 0, 0, 0⟩
  | i + 1 => ⟨true, 9, sq a m i, (m * i : Nat)⟩
def pkA (a : Int) (m i : Nat) : PktA := ⟨false, 0, sq a m i, 0, 9, []⟩
def got (src : Int) (m i : Nat) : PktA := ⟨false, 0, (m * i : Nat), 0, src, []⟩
def ofs (s0 s1 : Spk) : List Spk := s0 :: s1 :: List.replicate 14 ⟨false, 0, 0, 0⟩

theorem next_spk (a : Int) (m i : Nat) (hm : m * i < 60000) (hm0 : 0 < m) (hm1 : m < 10) : nextNA (spk a m i) (pkA a m i) = (m * i : Nat) ∧ nextOkA (spk a m i) (pkA a m i) = true := by
  cases i with
  | zero => simp [spk, nextNA, nextOkA]
  | succ j =>
    have e : m * (j + 1) = m * j + m := by rw [Nat.mul_add]; omega
    rw [e] at hm
    simp only [spk, nextNA, nextOkA, pkA, if_true, less16, d16, sq, e]
    simp only [IntKind.wrap_u16]
    constructor
    · push_cast; omega
    · have h1 : ((a + ((m * j + m : Nat) : Int) % 65536) % 65536 - (a + ((m * j : Nat) : Int) % 65536) % 65536) % 65536 = m := by push_cast; omega
      rw [h1]
      simp; omega

def many (a b : Int) (i j : Nat) (w : List PktA) : List LisA :=
  [⟨true, ofs ⟨false, 0, 0, 0⟩ (spk b 2 j), (List.range j).map (got 2 2), 0⟩, ⟨true, ofs (spk a 1 i) ⟨false, 0, 0, 0⟩, (List.range i).map (got 1 1), 0⟩, ⟨true, ofs (spk a 1 i) (spk b 2 j), w, 0⟩]

theorem hand_ok (x : LisA) (src : Nat) (s : Spk) (p : PktA) (hl : x.listens = true) (hok : nextOkA s p = true) (hw : x.wait.length < 64) :
    handOkA x s p 64 = true ∧ handA x src s p 64 = { x with of := x.of.set src ⟨true, p.source, p.seq, nextNA s p⟩, wait := x.wait ++ [handPkA s src p] } := by
  have hw' : (x.wait.length : Int) < 64 := by omega
  constructor
  · simp [handOkA, hl, hok, hw']
  · simp [handA, hl, hok, hw']

theorem many_hear0 (a b : Int) (i j : Nat) (w : List PktA) (hi : i < 60) (hw : w.length < 64) : hearTo 0 (pkA a 1 i) 64 (many a b i j w) 3 = (2, many a b (i + 1) j (w ++ [got 1 1 i])) := by
  obtain ⟨n1, n2⟩ := next_spk a 1 i (by omega) (by omega) (by omega)
  have e : List.range 3 = [0, 1, 2] := rfl
  have hpk : handPkA (spk a 1 i) 0 (pkA a 1 i) = got 1 1 i := by
    unfold handPkA; rw [n1]; rfl
  have hsp : (⟨true, (pkA a 1 i).source, (pkA a 1 i).seq, nextNA (spk a 1 i) (pkA a 1 i)⟩ : Spk) = spk a 1 (i + 1) := by rw [n1]; rfl
  obtain ⟨a1, a2⟩ := hand_ok ⟨true, ofs (spk a 1 i) ⟨false, 0, 0, 0⟩, (List.range i).map (got 1 1), 0⟩ 0 (spk a 1 i) (pkA a 1 i) rfl n2 (by simp; omega)
  obtain ⟨b1, b2⟩ := hand_ok ⟨true, ofs (spk a 1 i) (spk b 2 j), w, 0⟩ 0 (spk a 1 i) (pkA a 1 i) rfl n2 hw
  rw [hpk, hsp] at a2 b2
  unfold hearTo
  rw [e]
  simp only [List.foldl_cons, List.foldl_nil, hearStep, if_true, Nat.one_ne_zero, if_false, many, List.getElem?_cons_succ, List.getElem?_cons_zero, ofs, show ¬ (2 = 0) by decide, show ¬ ((1 : Nat) = 0) by decide] at a1 a2 b1 b2 ⊢
  rw [a1, a2, if_pos rfl]
  simp only [List.set_cons_succ, List.set_cons_zero, List.getElem?_cons_succ, List.getElem?_cons_zero]
  rw [b1, b2]
  simp only [if_true, List.set_cons_succ, List.set_cons_zero, List.range_succ, List.map_append, List.map_cons, List.map_nil, ofs]
  rfl

theorem many_hear1 (a b : Int) (i j : Nat) (w : List PktA) (hj : j < 60) (hw : w.length < 64) : hearTo 1 (pkA b 2 j) 64 (many a b i j w) 3 = (2, many a b i (j + 1) (w ++ [got 2 2 j])) := by
  obtain ⟨n1, n2⟩ := next_spk b 2 j (by omega) (by omega) (by omega)
  have e : List.range 3 = [0, 1, 2] := rfl
  have hpk : handPkA (spk b 2 j) 1 (pkA b 2 j) = got 2 2 j := by
    unfold handPkA; rw [n1]; rfl
  have hsp : (⟨true, (pkA b 2 j).source, (pkA b 2 j).seq, nextNA (spk b 2 j) (pkA b 2 j)⟩ : Spk) = spk b 2 (j + 1) := by rw [n1]; rfl
  obtain ⟨a1, a2⟩ := hand_ok ⟨true, ofs ⟨false, 0, 0, 0⟩ (spk b 2 j), (List.range j).map (got 2 2), 0⟩ 1 (spk b 2 j) (pkA b 2 j) rfl n2 (by simp; omega)
  obtain ⟨b1, b2⟩ := hand_ok ⟨true, ofs (spk a 1 i) (spk b 2 j), w, 0⟩ 1 (spk b 2 j) (pkA b 2 j) rfl n2 hw
  rw [hpk, hsp] at a2 b2
  unfold hearTo
  rw [e]
  simp only [List.foldl_cons, List.foldl_nil, hearStep, if_true, if_false, many, List.getElem?_cons_succ, List.getElem?_cons_zero, ofs, show ¬ ((0 : Nat) = 1) by decide, show ¬ ((2 : Nat) = 1) by decide] at a1 a2 b1 b2 ⊢
  rw [a1, a2, if_pos rfl]
  simp only [List.set_cons_succ, List.set_cons_zero, List.getElem?_cons_succ, List.getElem?_cons_zero]
  rw [b1, b2]
  simp only [if_true, List.set_cons_succ, List.set_cons_zero, List.range_succ, List.map_append, List.map_cons, List.map_nil, ofs]
  rfl

/-- What waits for the third, behind i packets of each. -/
def inter : Nat → List PktA
  | 0 => []
  | i + 1 => inter i ++ [got 1 1 i] ++ [got 2 2 i]
theorem inter_len : ∀ i, (inter i).length = 2 * i
  | 0 => rfl
  | i + 1 => by simp [inter, inter_len i]; omega
theorem inter_get : ∀ {i t : Nat}, t < i → (inter i)[2 * t]? = some (got 1 1 t) ∧ (inter i)[2 * t + 1]? = some (got 2 2 t)
  | 0, t, h => by omega
  | i + 1, t, h => by
    have hl := inter_len i
    simp only [inter]
    by_cases e : t = i
    · subst e
      constructor
      · rw [List.getElem?_append_left (by simp; omega), List.getElem?_append_right (by omega)]; simp [hl]
      · rw [List.getElem?_append_right (by simp; omega)]; simp [hl]
    · have ⟨h1, h2⟩ := inter_get (i := i) (t := t) (by omega)
      constructor
      · rw [List.getElem?_append_left (by simp; omega), List.getElem?_append_left (by omega)]; exact h1
      · rw [List.getElem?_append_left (by simp; omega), List.getElem?_append_left (by omega)]; exact h2

end Go.Proofs.Ytaobahddincaiaa
