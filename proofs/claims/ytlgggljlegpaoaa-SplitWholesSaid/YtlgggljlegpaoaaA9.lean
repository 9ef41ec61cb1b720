/- Layer 13: what the chunks of a message are to each other: there and back; what is none. No program in sight. -/
import Derived.Test.YtlgggljlegpaoaaA8
namespace Go.Proofs.Ytlgggljlegpaoaa
open Go Go.E Go.Proofs

/-- The chunk number k of K. -/
def ck (m : Msg) (tsn ssn : Int) (n k K : Nat) (ad : Option Addr × Nat) : Chk := endFl (pc m tsn (fl0 m) (in0 m ssn) n k ad) k K

theorem fl_cases (u p q : Bool) : (band (endF (bif u then 4 else 0) p q) 2 == 0) = !p ∧ (band (endF (bif u then 4 else 0) p q) 1 == 0) = !q ∧ (band (endF (bif u then 4 else 0) p q) 4 != 0) = u := by
  cases u <;> cases p <;> cases q <;> decide
theorem fl_xor (u p q p' q' : Bool) : (band (ibits .xor .u8 (endF (bif u then 4 else 0) p q) (endF (bif u then 4 else 0) p' q')) 4 == 0) = true := by
  cases u <;> cases p <;> cases q <;> cases p' <;> cases q' <;> decide

section
variable {m : Msg} {tsn ssn : Int} {n k j K : Nat} {ad ad' : Option Addr × Nat}

theorem ck_keep {γ : Type} (g : Chk → γ) (hg : ∀ c x, g (c.or x) = g c) : g (ck m tsn ssn n k K ad) = g (pc m tsn (fl0 m) (in0 m ssn) n k ad) := by
  unfold ck endFl
  by_cases a : k = 0 <;> by_cases b : k = K - 1
  · rw [if_pos a, if_pos b, hg, hg]
  · rw [if_pos a, if_neg b, hg]
  · rw [if_neg a, if_pos b, hg]
  · rw [if_neg a, if_neg b]
theorem ck_flags : (ck m tsn ssn n k K ad).flags = endF (bif m.unord then 4 else 0) (decide (k = 0)) (decide (k = K - 1)) := by
  unfold ck
  rw [endFl_flags, show (pc m tsn (fl0 m) (in0 m ssn) n k ad).flags = fl0 m from rfl]
  unfold fl0; cases m.unord <;> rfl
theorem ck_begin : (band (ck m tsn ssn n k K ad).flags 2 == 0) = !(decide (k = 0)) := by rw [ck_flags]; exact (fl_cases _ _ _).1
theorem ck_end : (band (ck m tsn ssn n k K ad).flags 1 == 0) = !(decide (k = K - 1)) := by rw [ck_flags]; exact (fl_cases _ _ _).2.1
theorem ck_free : (band (ck m tsn ssn n k K ad).flags 4 != 0) = m.unord := by rw [ck_flags]; exact (fl_cases _ _ _).2.2
theorem ck_kind : (ck m tsn ssn n k K ad).kind = 0 := ck_keep Chk.kind fun _ _ => rfl
theorem ck_a : (ck m tsn ssn n k K ad).a = tsnAt tsn k := ck_keep Chk.a fun _ _ => rfl
theorem ck_out : (ck m tsn ssn n k K ad).out = m.stream := ck_keep Chk.out fun _ _ => rfl
theorem ck_inn : (ck m tsn ssn n k K ad).inn = in0 m ssn := ck_keep Chk.inn fun _ _ => rfl
theorem ck_ppid : (ck m tsn ssn n k K ad).ppid = m.ppid := ck_keep Chk.ppid fun _ _ => rfl
theorem ck_bytes : (ck m tsn ssn n k K ad).bytes = piece m n k := ck_keep Chk.bytes fun _ _ => rfl

/-- Which chunk of a message follows which. -/
theorem ck_follows : follows (ck m tsn ssn n j K ad) (ck m tsn ssn n k K ad') = (decide (tsnAt tsn k = IntKind.u32.wrap (tsnAt tsn j + 1)) && !(decide (j = K - 1)) && !(decide (k = 0))) := by
  unfold follows
  rw [ck_end, ck_begin, ck_flags, ck_flags, fl_xor, ck_kind, ck_kind, ck_out, ck_out, ck_inn, ck_inn, ck_ppid, ck_ppid, ck_a, ck_a]
  simp only [beq_self_eq_true, Bool.and_true, Bool.true_and]
  congr 2

theorem tsn_next (tsn : Int) (k : Nat) : tsnAt tsn (k + 1) = IntKind.u32.wrap (tsnAt tsn k + 1) := by
  unfold tsnAt
  simp only [IntKind.wrap_u32]
  omega
theorem tsn_skip (tsn : Int) (k : Nat) : tsnAt tsn (k + 2) ≠ IntKind.u32.wrap (tsnAt tsn k + 1) := by
  unfold tsnAt
  simp only [IntKind.wrap_u32]
  omega

theorem splits_ck {ads : List (Option Addr × Nat)} (hk : k < ads.length) : ∃ ad, (splits m tsn ssn n ads)[k]? = some (ck m tsn ssn n k ads.length ad) := splits_get hk

/-- The pieces, one behind another, are the octets. -/
theorem pieces_take (m : Msg) (n : Nat) : ∀ k, (List.range k).flatMap (piece m n) = m.bytes.take (k * n)
  | 0 => by simp
  | k + 1 => by
    rw [List.range_succ, List.flatMap_append, pieces_take m n k, List.flatMap_singleton, Nat.succ_mul, List.take_add]
    rfl
theorem splits_bytes (m : Msg) (tsn ssn : Int) (n : Nat) (ads : List (Option Addr × Nat)) : (splits m tsn ssn n ads).flatMap Chk.bytes = (List.range ads.length).flatMap (piece m n) := by
  have h : (splits m tsn ssn n ads).map Chk.bytes = (List.range ads.length).map (piece m n) := by
    apply List.ext_getElem?
    intro k
    by_cases hk : k < ads.length
    · obtain ⟨ad, h⟩ := splits_ck (m := m) (tsn := tsn) (ssn := ssn) (n := n) hk
      rw [List.getElem?_map, h, List.getElem?_map, List.getElem?_range hk]
      exact congrArg some ck_bytes
    · rw [List.getElem?_eq_none (by rw [List.length_map, splits_length]; omega), List.getElem?_eq_none (by simp; omega)]
  rw [List.flatMap_def, List.flatMap_def, h]

theorem chain_iff (cs : List Chk) (N : Nat) : chain cs N = true ↔ ∀ i, 0 < i → i < N → follows (cs.getD (i - 1) noChk) (cs.getD i noChk) = true := by
  unfold chain
  rw [List.all_eq_true]
  constructor
  · intro h i h0 hi
    have := h i (List.mem_range.2 hi)
    simp only [Bool.or_eq_true, beq_iff_eq] at this
    exact this.resolve_left (by omega)
  · intro h i hi
    by_cases h0 : i = 0
    · simp [h0]
    · rw [h i (by omega) (List.mem_range.1 hi), Bool.or_true]

/-- There and back. -/
theorem splits_whole {ads : List (Option Addr × Nat)} (h0 : 0 < ads.length) : wholeOk (splits m tsn ssn n ads) = true := by
  obtain ⟨a0, e0⟩ := splits_ck (m := m) (tsn := tsn) (ssn := ssn) (n := n) (ads := ads) (k := 0) h0
  obtain ⟨a1, e1⟩ := splits_ck (m := m) (tsn := tsn) (ssn := ssn) (n := n) (ads := ads) (k := ads.length - 1) (by omega)
  unfold wholeOk wholeHead
  rw [splits_length, getD_of e0, getD_of e1, ck_begin, ck_end, ck_kind]
  rw [(chain_iff _ _).2 fun i h1 h2 => by
    obtain ⟨b0, f0⟩ := splits_ck (m := m) (tsn := tsn) (ssn := ssn) (n := n) (ads := ads) (k := i - 1) (by omega)
    obtain ⟨b1, f1⟩ := splits_ck (m := m) (tsn := tsn) (ssn := ssn) (n := n) (ads := ads) (k := i) h2
    rw [getD_of f0, getD_of f1, ck_follows, decide_eq_true (by have := tsn_next tsn (i - 1); rwa [show i - 1 + 1 = i by omega] at this), decide_eq_false (by omega : ¬ i - 1 = ads.length - 1), decide_eq_false (by omega : ¬ i = 0)]
    rfl]
  rw [show (ads.length == 0) = false by rw [beq_eq_false_iff_ne]; omega, decide_eq_true rfl, decide_eq_true rfl]
  rfl
end

/-- No first chunk that begins, no last one that ends, a gap: it is none. -/
theorem whole_no_begin {cs : List Chk} (h : band (cs.getD 0 noChk).flags 2 = 0) : wholeOk cs = false := by
  unfold wholeOk wholeHead
  rw [h]; simp
theorem whole_no_end {cs : List Chk} (h : band (cs.getD (cs.length - 1) noChk).flags 1 = 0) : wholeOk cs = false := by
  unfold wholeOk wholeHead
  rw [h]; simp
theorem whole_gap {cs : List Chk} {i : Nat} (h0 : 0 < i) (hi : i < cs.length) (h : follows (cs.getD (i - 1) noChk) (cs.getD i noChk) = false) : wholeOk cs = false := by
  unfold wholeOk
  have : chain cs cs.length = false := by
    cases hc : chain cs cs.length with
    | false => rfl
    | true => rw [(chain_iff _ _).1 hc i h0 hi] at h; cases h
  rw [this, Bool.and_false]
theorem whole_nil : wholeOk [] = false := rfl

end Go.Proofs.Ytlgggljlegpaoaa
