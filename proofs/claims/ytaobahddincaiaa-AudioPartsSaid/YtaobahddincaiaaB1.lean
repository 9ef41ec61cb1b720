/- Layer 20: AudioParts, in plain numbers: what a listener holds of one speaker is some of what that one said, in order. -/
import Derived.Test.YtaobahddincaiaaA7
namespace Go.Proofs.Ytaobahddincaiaa
open Go Go.E Go.Proofs

def octs (k : Nat) : List Int := [IntKind.u8.wrap k, IntKind.u8.wrap ((k : Int).fdiv (2 ^ 8))]
/-- The k-th packet, as it is said. -/
def said (source : Int) (seqs : List Int) (k : Nat) : PktA := ⟨((k : Int).tmod 2 == 0), 5, seqs.getD k 0, k, source, (octs k).map (Value.int .u8)⟩
/-- The k-th packet, as it is handed on. -/
def pkO (first : Int) (seqs : List Int) (k : Nat) : PktA := ⟨((k : Int).tmod 2 == 0), 5, IntKind.u16.wrap (seqs.getD k 0 - first), k, 1, (octs k).map (Value.int .u8)⟩

structure PI (first source : Int) (seqs : List Int) (i lo : Nat) (l : LisA) : Prop where
  listens : l.listens = true
  of16 : l.of.length = 16
  spk : (i = 0 ∧ l.of[0]? = some ⟨false, 0, 0, 0⟩) ∨ ∃ own, l.of[0]? = some ⟨true, source, own, IntKind.u16.wrap (own - first)⟩
  ks : ∃ ks : List Nat, l.wait = ks.map (pkO first seqs) ∧ ks.Pairwise (· < ·) ∧ ∀ k ∈ ks, lo ≤ k ∧ k < i
  wlen : l.wait.length ≤ i

theorem PI.hear {first source : Int} {seqs : List Int} {i lo : Nat} {l : LisA} (h : PI first source seqs i lo l) (hf : i = 0 → first = seqs.getD 0 0) (hlo : lo ≤ i) (room : Int) :
    ∃ t l', hearTo 0 (said source seqs i) room [newA true, l] 2 = (t, [newA true, l']) ∧ PI first source seqs (i + 1) lo l' := by
  have e : List.range 2 = [0, 1] := rfl
  obtain ⟨s, hs⟩ : ∃ s, l.of[0]? = some s := by
    rcases h.spk with ⟨_, h⟩ | ⟨o, h⟩ <;> exact ⟨_, h⟩
  have hh : hearTo 0 (said source seqs i) room [newA true, l] 2 = (if handOkA l s (said source seqs i) room then IntKind.i64.wrap (0 + 1) else 0, [newA true, handA l 0 s (said source seqs i) room]) := by
    unfold hearTo
    rw [e]
    simp only [List.foldl_cons, List.foldl_nil, hearStep, if_true, show ¬ ((1 : Nat) = 0) by decide, if_false, List.getElem?_cons_succ, List.getElem?_cons_zero, hs, List.set_cons_succ, List.set_cons_zero]
  refine ⟨_, _, hh, ?_⟩
  obtain ⟨ks, hks, hpw, hall⟩ := h.ks
  have hlt0 : 0 < l.of.length := by rw [h.of16]; omega
  have hn : nextNA s (said source seqs i) = IntKind.u16.wrap (seqs.getD i 0 - first) := by
    rcases h.spk with ⟨hi, h'⟩ | ⟨o, h'⟩
    · rw [h'] at hs; cases hs
      subst hi
      rw [hf rfl]; simp [nextNA]; rfl
    · rw [h'] at hs; cases hs
      simp only [nextNA, said, if_true, IntKind.wrap_u16]
      omega
  have hks' : ∀ k ∈ ks, lo ≤ k ∧ k < i + 1 := fun k hk => by have := hall k hk; omega
  unfold handA
  split
  · have hsp : (l.of.set 0 ⟨true, (said source seqs i).source, (said source seqs i).seq, nextNA s (said source seqs i)⟩)[0]? = some ⟨true, source, seqs.getD i 0, IntKind.u16.wrap (seqs.getD i 0 - first)⟩ := by
      rw [List.getElem?_set_self hlt0, hn]; rfl
    split
    · refine ⟨h.listens, by simp [h.of16], .inr ⟨_, hsp⟩, ⟨ks ++ [i], ?_, ?_, ?_⟩, ?_⟩
      · rw [List.map_append, hks]
        congr 1
        simp only [handPkA, List.map_cons, List.map_nil, hn]; rfl
      · rw [List.pairwise_append]
        refine ⟨hpw, by simp, fun x hx y hy => ?_⟩
        simp at hy; subst hy
        exact (hall x hx).2
      · intro k hk
        rcases List.mem_append.1 hk with hk | hk
        · exact hks' k hk
        · simp at hk; omega
      · have := h.wlen; simp; omega
    · exact ⟨h.listens, by simp [h.of16], .inr ⟨_, hsp⟩, ⟨ks, hks, hpw, hks'⟩, by have := h.wlen; show l.wait.length ≤ _; omega⟩
  · refine ⟨h.listens, h.of16, ?_, ⟨ks, hks, hpw, hks'⟩, by have := h.wlen; omega⟩
    rename_i hno
    rcases h.spk with ⟨hi, h'⟩ | h'
    · exfalso
      rw [h'] at hs; cases hs
      apply hno
      simp [h.listens, nextOkA]
    · exact .inr h'

theorem PI.pull {first source : Int} {seqs : List Int} {i lo : Nat} {l : LisA} (h : PI first source seqs i lo l) : (l.wait = []) ∨ ∃ k rest, l.wait = pkO first seqs k :: rest ∧ lo ≤ k ∧ k < i ∧ PI first source seqs i (k + 1) { l with wait := rest } := by
  obtain ⟨ks, hks, hpw, hall⟩ := h.ks
  cases ks with
  | nil => exact .inl hks
  | cons k r =>
    rw [List.pairwise_cons] at hpw
    refine .inr ⟨k, r.map (pkO first seqs), hks, (hall k (by simp)).1, (hall k (by simp)).2, h.listens, h.of16, h.spk, ⟨r, rfl, hpw.2, fun x hx => ⟨hpw.1 x hx, (hall x (by simp [hx])).2⟩⟩, ?_⟩
    have := h.wlen
    rw [hks] at this
    simp at this ⊢; omega

end Go.Proofs.Ytaobahddincaiaa
