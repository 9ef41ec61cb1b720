/- Layer 13: 'slices.Clone' of octets that may be read, and the iterator of 'slices.Chunk', walked. -/
import Derived.Test.YtlgggljlegpaoaaA0
namespace Go.Proofs.Ytlgggljlegpaoaa
open Go Go.E Go.Proofs

theorem clone_rd (base : Option Addr) (n c : Nat) (l : List Value) (w : World) (h : Rd w base l) (hl : l.length = n) (h1 : ∀ u ∈ l, Value.one u = true) (hb : base = none → n = 0) (hn : n ≤ 1000000) :
    Calls Try.prog 19 #[.slice base n c] w fun e w' => ∃ base' c', e = .returned (.slice base' n c') ∧ Sat w (own 5 1 base' n c' l * 1) w' := by
  refine Calls.enter (cfg := cfg19 w) (β := []) (H := []) (F := 1) (l := [.raw (.slice base n c)]) Try.func19 rfl rfl (Nat.le_of_ble_eq_true rfl) rfl ((Sat.refl w).eq (one_mul 1).symm) ?_
  refine Go.run mixed 300 [] rfl ?_
  refine Ok.eq (r' := Res.ite (Option.isNone base) (Res.leave Leave.ret { stk := [It.code [1, 0, 1, 0, 1], It.code [1, 1]], fr := [(2, LV.cst (Value.slice none 0 0)), (0, LV.raw (Value.slice base n c))], H := [], nx := 0, orc := [] }) (Res.new (Res.stop { stk := [It.reg [1, 1, 0] [2, 3], It.code [1, 1, 1]], fr := [(6, LV.raw (Value.slice base n c)), (5, LV.sl 0 0 0 0), (2, LV.cst (Value.slice none 0 0)), (0, LV.raw (Value.slice base n c))], H := [(0, LO.lay [] 5)], nx := 1, orc := [] }))) (by kernel_rfl) ?_
  refine ⟨fun h0 => leave_ok (fun _ => nofun) rfl fun w hs => ⟨none, 0, ?_, ?_⟩, fun h0 => ?_⟩
  · have : base = none := by simpa using h0
    simp [den, hb this]
  · have hb0 : base = none := by simpa using h0
    have : l = [] := List.eq_nil_of_length_eq_zero (by rw [hl, hb hb0])
    rw [this, hb hb0]
    exact own_nil hs.right
  · refine fun b1 _ => Go.append (base := some ⟨b1, 0, none⟩) (n := 0) (c := 0) (e := 5) (sz := 1) n rfl rfl rfl rfl rfl rfl rfl rfl rfl rfl rfl fun w' hs => ?_
    refine ⟨[], l, 1, [], ?_, ?_, (show (0 + n) * 1 ≤ 140737488355328 by omega), by omega, fun base' c' => ?_⟩
    · refine own_strip ⟨b1, [], []⟩ ⟨rfl, rfl, Nat.le_refl _, rfl, by simp⟩ (hs.eq ?_)
      simp [satH, atom, denO, bk, mul_one, denL]
    · exact (h.sat hs).src (tx := 24) (e' := 5) rfl (by rw [hl, Nat.mul_one]) h1 hb
    · refine Go.run mixed 300 [] rfl ?_
      refine Ok.eq (r' := Res.leave Leave.ret { stk := [It.code [1, 1, 1]], fr := [(2, LV.raw (Value.slice base' (0 + n) c')), (0, LV.raw (Value.slice base n c))], H := [], nx := 1, orc := [] }) (by kernel_rfl) ?_
      refine leave_ok (fun _ => nofun) rfl fun w hs => ⟨base', c', ?_, ?_⟩
      · simp [den]
      · have := hs.right
        rwa [Nat.zero_add, List.nil_append] at this

/-- The boxes of an iterator over pieces. -/
def chunkBoxes (bs bn : Nat) (base : Option Addr) (len cap n : Nat) (J : HP) : HP := pt bs (.cells #[.slice base len cap] 24) * (pt bn (.cells #[.int .i64 n] 3) * J)

theorem chunk_spec (y bs bn : Nat) (base : Option Addr) (len cap n : Nat) (J : Nat → HP) (hn : 1 ≤ n) (hn2 : n ≤ 1172) (hlen : len ≤ 1000000) (hb : base = none → len = 0) {w0 w : World} (hs : Sat w0 (chunkBoxes bs bn base len cap n (J 0)) w) (hcap : len ≤ cap)
    (hy : ∀ i, i * n < len → ∀ w, Sat w0 (chunkBoxes bs bn base len cap n (J i)) w → Yielded Try.prog y #[.slice (base.map fun a => a.add (i * n)) (min n (len - i * n)) (min n (len - i * n))] w fun v w' => v = .bool true ∧ Sat w0 (chunkBoxes bs bn base len cap n (J (i + 1))) w') :
    Calls Try.prog 21 #[.func (.yield y) #[] #[], .pointer (some ⟨bs, 0, none⟩), .pointer (some ⟨bn, 0, none⟩)] w fun e w' => (∃ v, e = .returned v) ∧ ∃ i, len ≤ i * n ∧ (i = 0 ∨ (i - 1) * n < len) ∧ Sat w0 (chunkBoxes bs bn base len cap n (J i)) w' := by
  refine Calls.enter (cfg := cfg21 w0) (β := [bs, bn]) (H := [(0, .lay [.raw (.slice base len cap)] 24), (1, .lay [.int .i64 n] 3)]) (F := J 0) (l := [.raw (.func (.yield y) #[] #[]), .ptr 0 0, .ptr 1 0]) Try.func21 rfl rfl (Nat.le_of_ble_eq_true rfl) rfl (hs.eq ?_) ?_
  · simp [chunkBoxes, satH, atom, denO, bk, mul_one, denL, den, star_assoc]
  refine Go.run mixed 300 [] rfl ?_
  refine Ok.eq (r' := Res.stop { stk := [It.code [1, 0], It.blk 0], fr := [(4, LV.int IntKind.i64 (0 : Int)), (0, LV.raw (Value.func (Fn.yield y) #[] #[])), (1, LV.ptr 0 0), (2, LV.ptr 1 0)], H := [(0, LO.lay [LV.raw (Value.slice base len cap)] 24), (1, LO.lay [LV.int IntKind.i64 (↑n : Int)] 3)], nx := 2, orc := [] }) (by kernel_rfl) ?_
  refine fun _ => Go.loop (ι := { i : Nat // i = 0 ∨ (i - 1) * n < len }) (fun i => (J i.1, [bs, bn], [(4, .int .i64 (i.1 * n : Nat)), (0, .raw (.func (.yield y) #[] #[])), (1, .ptr 0 0), (2, .ptr 1 0)], [(0, .lay [.raw (.slice base len cap)] 24), (1, .lay [.int .i64 n] 3)]))
    (fun i => len - i.1 * n) rfl ⟨0, .inl rfl⟩ (fun w hs => ⟨FrEq.of_all ⟨by show Value.int .i64 ((0 * n : Nat) : Int) = Value.int .i64 0; simp, rfl, rfl, rfl, trivial⟩, rfl, hs⟩) ?_
  intro ⟨i, hi⟩ rec
  dsimp only
  obtain ⟨q, hq⟩ : ∃ q, q = i * n := ⟨_, rfl⟩
  rw [← hq]
  have hq1 : (i + 1) * n = q + n := by rw [Nat.succ_mul, hq]
  have hqi : i = 0 ∨ q < len + n := by
    rcases hi with h | h
    · exact .inl h
    · by_cases h0 : i = 0
      · exact .inl h0
      · have : (i - 1) * n = q - n := by rw [Nat.sub_mul, Nat.one_mul, hq]
        omega
  have hql : q < len + n := by
    rcases hqi with h | h
    · subst h; rw [hq]; omega
    · exact h
  refine Go.run mixed 300 [] rfl ?_
  refine Ok.eq (r' := Res.ite (decide ((↑q : Int) < (↑len : Int))) (Res.need [fun x ↦ (0 : Int) ≤ (↑q : Int) ∧ (↑q : Int) ≤ (↑len : Int)] (Res.need [fun x ↦ (0 : Int) ≤ IntKind.wrap IntKind.i64 ((↑q : Int) + if (↑(len - Int.toNat (↑q : Int)) : Int) < (↑n : Int) then (↑(len - Int.toNat (↑q : Int)) : Int) else (↑n : Int)) ∧ IntKind.wrap IntKind.i64 ((↑q : Int) + if (↑(len - Int.toNat (↑q : Int)) : Int) < (↑n : Int) then (↑(len - Int.toNat (↑q : Int)) : Int) else (↑n : Int)) ≤ (↑cap : Int), fun x ↦ (0 : Int) ≤ IntKind.wrap IntKind.i64 ((↑q : Int) + if (↑(len - Int.toNat (↑q : Int)) : Int) < (↑n : Int) then (↑(len - Int.toNat (↑q : Int)) : Int) else (↑n : Int)) ∧ IntKind.wrap IntKind.i64 ((↑q : Int) + if (↑(len - Int.toNat (↑q : Int)) : Int) < (↑n : Int) then (↑(len - Int.toNat (↑q : Int)) : Int) else (↑n : Int)) ≤ (↑(Int.toNat (IntKind.wrap IntKind.i64 ((↑q : Int) + if (↑(len - Int.toNat (↑q : Int)) : Int) < (↑n : Int) then (↑(len - Int.toNat (↑q : Int)) : Int) else (↑n : Int)))) : Int), fun x ↦ (0 : Int) ≤ (↑q : Int) ∧ (↑q : Int) ≤ (↑(Int.toNat (IntKind.wrap IntKind.i64 ((↑q : Int) + if (↑(len - Int.toNat (↑q : Int)) : Int) < (↑n : Int) then (↑(len - Int.toNat (↑q : Int)) : Int) else (↑n : Int)))) : Int)] (Res.stop { stk := [It.reg [1, 0, 0, 1, 0, 0, 1, 0] [10, 11], It.code [1, 0, 0, 1, 0, 0, 1, 1], It.blk 1, It.code [1, 0, 0, 1, 1], It.lp [1, 0, 0], It.blk 0], fr := [(28, LV.raw (Value.slice (if Int.toNat (IntKind.wrap IntKind.i64 ((↑q : Int) + if (↑(len - Int.toNat (↑q : Int)) : Int) < (↑n : Int) then (↑(len - Int.toNat (↑q : Int)) : Int) else (↑n : Int))) = Int.toNat (↑q : Int) then base else Option.map (fun a ↦ Addr.add a (Int.toNat (↑q : Int) * 1)) base) (Int.toNat (IntKind.wrap IntKind.i64 ((↑q : Int) + if (↑(len - Int.toNat (↑q : Int)) : Int) < (↑n : Int) then (↑(len - Int.toNat (↑q : Int)) : Int) else (↑n : Int))) - Int.toNat (↑q : Int)) (Int.toNat (IntKind.wrap IntKind.i64 ((↑q : Int) + if (↑(len - Int.toNat (↑q : Int)) : Int) < (↑n : Int) then (↑(len - Int.toNat (↑q : Int)) : Int) else (↑n : Int))) - Int.toNat (↑q : Int)))), (27, LV.int IntKind.i64 (IntKind.wrap IntKind.i64 ((↑q : Int) + if (↑(len - Int.toNat (↑q : Int)) : Int) < (↑n : Int) then (↑(len - Int.toNat (↑q : Int)) : Int) else (↑n : Int)))), (26, LV.int IntKind.i64 (if (↑(len - Int.toNat (↑q : Int)) : Int) < (↑n : Int) then (↑(len - Int.toNat (↑q : Int)) : Int) else (↑n : Int))), (25, LV.int IntKind.i64 (↑q : Int)), (24, LV.int IntKind.i64 (IntKind.wrap IntKind.i64 ((↑q : Int) + if (↑(len - Int.toNat (↑q : Int)) : Int) < (↑n : Int) then (↑(len - Int.toNat (↑q : Int)) : Int) else (↑n : Int)))), (23, LV.int IntKind.i64 (if (↑(len - Int.toNat (↑q : Int)) : Int) < (↑n : Int) then (↑(len - Int.toNat (↑q : Int)) : Int) else (↑n : Int))), (22, LV.int IntKind.i64 (↑q : Int)), (21, LV.int IntKind.i64 (↑q : Int)), (20, LV.raw (Value.slice base len cap)), (19, LV.raw (Value.func (Fn.yield y) #[] #[])), (5, LV.int IntKind.i64 (if (↑(len - Int.toNat (↑q : Int)) : Int) < (↑n : Int) then (↑(len - Int.toNat (↑q : Int)) : Int) else (↑n : Int))), (4, LV.int IntKind.i64 (↑q : Int)), (0, LV.raw (Value.func (Fn.yield y) #[] #[])), (1, LV.ptr 0 0), (2, LV.ptr 1 0)], H := [(0, LO.lay [LV.raw (Value.slice base len cap)] 24), (1, LO.lay [LV.int IntKind.i64 (↑n : Int)] 3)], nx := 2, orc := [] }))) (Res.leave Leave.fin { stk := [], fr := [(4, LV.int IntKind.i64 (↑q : Int)), (0, LV.raw (Value.func (Fn.yield y) #[] #[])), (1, LV.ptr 0 0), (2, LV.ptr 1 0)], H := [(0, LO.lay [LV.raw (Value.slice base len cap)] 24), (1, LO.lay [LV.int IntKind.i64 (↑n : Int)] 3)], nx := 2, orc := [] })) (by kernel_rfl) ?_
  refine ⟨fun hlt => ?_, fun hge => leave_ok (fun _ => nofun) rfl fun w hs => ⟨⟨_, rfl⟩, i, ?_, hi, hs.eq ?_⟩⟩
  · have hlt' : q < len := by simp at hlt; omega
    have hqn : ((q : Nat) : Int).toNat = q := by omega
    have hmin : (if ((len - q : Nat) : Int) < (n : Int) then ((len - q : Nat) : Int) else (n : Int)) = ((min n (len - q) : Nat) : Int) := by split <;> omega
    have hwr : IntKind.i64.wrap ((q : Int) + ((min n (len - q) : Nat) : Int)) = ((q + min n (len - q) : Nat) : Int) := by rw [IntWalk.i64_in _ (by omega)]; omega
    have e1 : ((q + min n (len - q) : Nat) : Int).toNat = q + min n (len - q) := by omega
    have e2 : q + min n (len - q) - q = min n (len - q) := by omega
    rw [hqn, hmin, hwr, e1, e2, if_neg (by omega), Nat.mul_one]
    refine ⟨⟨by omega, trivial⟩, ⟨by omega, by omega, by omega, trivial⟩, fun _ => Go.yield rfl rfl rfl rfl fun w hs => ?_⟩
    have hy' := hy i (by rw [← hq]; exact hlt') w (hs.eq (by simp [chunkBoxes, satH, atom, denO, bk, mul_one, denL, den, star_assoc]))
    rw [← hq] at hy'
    refine hy'.mono fun v w' ⟨h1, h2⟩ => ?_
    refine After.keep (γ := []) (H' := [(0, .lay [.raw (.slice base len cap)] 24), (1, .lay [.int .i64 n] 3)]) (F' := J (i + 1)) (lv := .bool true) h1 rfl rfl rfl (h2.eq (by simp [chunkBoxes, satH, atom, denO, bk, mul_one, denL, den, star_assoc])) ?_
    refine Go.run mixed 300 [] rfl ?_
    refine Ok.eq (r' := Res.ite false (Res.leave Leave.ret { stk := [It.code [1, 0, 0, 1, 0, 0, 1, 1, 0], It.blk 1, It.code [1, 0, 0, 1, 1], It.lp [1, 0, 0], It.blk 0], fr := [(5, LV.int IntKind.i64 (↑(min n (len - q)) : Int)), (4, LV.int IntKind.i64 (↑q : Int)), (0, LV.raw (Value.func (Fn.yield y) #[] #[])), (1, LV.ptr 0 0), (2, LV.ptr 1 0)], H := [(0, LO.lay [LV.raw (Value.slice base len cap)] 24), (1, LO.lay [LV.int IntKind.i64 (↑n : Int)] 3)], nx := 2, orc := [] }) (Res.stop { stk := [It.lp [1, 0, 0], It.blk 0], fr := [(4, LV.int IntKind.i64 (IntKind.wrap IntKind.i64 ((↑q : Int) + (↑n : Int)))), (5, LV.int IntKind.i64 (↑(min n (len - q)) : Int)), (0, LV.raw (Value.func (Fn.yield y) #[] #[])), (1, LV.ptr 0 0), (2, LV.ptr 1 0)], H := [(0, LO.lay [LV.raw (Value.slice base len cap)] 24), (1, LO.lay [LV.int IntKind.i64 (↑n : Int)] 3)], nx := 2, orc := [] })) (by kernel_rfl) ?_
    have hw2 : IntKind.i64.wrap ((q : Int) + (n : Int)) = (((i + 1) * n : Nat) : Int) := by rw [IntWalk.i64_in _ (by omega), hq1]; omega
    have hrec := rec ⟨i + 1, .inr (by rw [Nat.add_sub_cancel, ← hq]; exact hlt')⟩ (by show len - (i + 1) * n < len - i * n; rw [hq1, ← hq]; omega)
    exact ⟨fun h => by simp at h, fun _ => fun _ => Go.again hrec (fun _ => rfl) fun w hs => ⟨⟨congrArg (Value.int .i64) hw2.symm, rfl, rfl, rfl, trivial⟩, rfl, hs⟩⟩
  · rw [← hq]; simp at hge; omega
  · simp [chunkBoxes, satH, atom, denO, bk, mul_one, denL, den, star_assoc]

end Go.Proofs.Ytlgggljlegpaoaa
