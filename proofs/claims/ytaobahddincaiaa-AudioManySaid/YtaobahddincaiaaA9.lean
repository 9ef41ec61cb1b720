/- Layer 20: AudioMany, walked. -/
import Derived.Test.YtaobahddincaiaaA8
namespace Go.Proofs.Ytaobahddincaiaa
open Go Go.E Go.Proofs

theorem and15 (n : Int) : ∃ m : Nat, m ≤ 15 ∧ ibits .and .i64 n 15 = m := by
  refine ⟨(BitVec.ofInt 64 n &&& BitVec.ofInt 64 15).toNat, ?_, ?_⟩
  · rw [BitVec.toNat_and]
    have : (BitVec.ofInt 64 15).toNat = 15 := by decide
    rw [this]; exact Nat.and_le_right
  · have h : (BitVec.ofInt 64 n &&& BitVec.ofInt 64 15).toNat ≤ 15 := by
      rw [BitVec.toNat_and]
      have : (BitVec.ofInt 64 15).toNat = 15 := by decide
      rw [this]; exact Nat.and_le_right
    show IntKind.i64.wrap ((BitVec.ofInt 64 n &&& BitVec.ofInt 64 15).toNat : Int) = _
    exact IntWalk.i64_in _ (by omega)

def lstn (j : Nat) : List LisA := [newA (decide (0 < j)), newA (decide (1 < j)), newA (decide (2 < j))]

theorem drop_of_get {α : Type} : ∀ {l : List α} {t : Nat} {x : α}, l[t]? = some x → l.drop t = x :: l.drop (t + 1)
  | [], t, x, h => by simp at h
  | y :: r, 0, x, h => by simp at h; simp [h]
  | y :: r, t + 1, x, h => by simp at h; simpa using drop_of_get h

/-- Behind t packets that were pulled. -/
def pulled (a b : Int) (k t : Nat) : List LisA :=
  [⟨true, ofs ⟨false, 0, 0, 0⟩ (spk b 2 k), (List.range k).map (got 2 2), 0⟩, ⟨true, ofs (spk a 1 k) ⟨false, 0, 0, 0⟩, (List.range k).map (got 1 1), 0⟩, ⟨true, ofs (spk a 1 k) (spk b 2 k), (inter k).drop t, 0⟩]

set_option maxHeartbeats 2000000 in
set_option maxRecDepth 100000 in
theorem many_spec (a b n : Int) {w0 : World} {F : HP} {w : World} (hs : Sat w0 F w) : Calls Try.prog 3 #[.int .u16 a, .int .u16 b, .int .i64 n] w fun e w' => e = .returned (.bool true) ∧ Sat w0 F w' := by
  refine Calls.enter (cfg := cfg3 w0) (β := []) (H := []) (F := F) (l := [.int .u16 a, .int .u16 b, .int .i64 n]) Try.func3 rfl rfl (Nat.le_of_ble_eq_true rfl) rfl (hs.eq (one_mul F).symm) ?_
  refine Go.run mixed 300 [] rfl ?_
  refine Ok.eq (r' := Res.stop { stk := [It.reg [1, 0] [0, 1], It.code [1, 1]], fr := [(6, LV.cst (Value.bool false)), (0, LV.int IntKind.u16 a), (1, LV.int IntKind.u16 b), (2, LV.int IntKind.i64 n)], H := [], nx := 0, orc := [] }) (by kernel_rfl) ?_
  refine fun _ => Go.callV (.bool true) [] F rfl rfl rfl rfl rfl rfl rfl (fun w hs => (awake_spec (w0 := w0) hs.right).mono fun e w' he => ⟨he.1, he.2.eq (one_mul F).symm⟩) ?_
  refine Go.run mixed 300 [] rfl ?_
  refine Ok.eq (r' := Res.stop { stk := [It.reg [1, 1, 1, 0] [0, 1], It.code [1, 1, 1, 1]], fr := [(8, LV.int IntKind.i64 (IntKind.wrap IntKind.i64 ((1 : Int) + ibits BinOp.and IntKind.i64 n (15 : Int)))), (7, LV.bool true), (6, LV.cst (Value.bool false)), (0, LV.int IntKind.u16 a), (1, LV.int IntKind.u16 b), (2, LV.int IntKind.i64 n)], H := [], nx := 0, orc := [] }) (by kernel_rfl) ?_
  refine fun _ => Go.call rfl rfl rfl rfl rfl fun w hs => (newA_spec (w0 := w0) 3 (.inr rfl) 64 hs.right).mono fun e w' he => ?_
  obtain ⟨bf, bl, he1, he2⟩ := he
  refine ⟨_, he1, After.keep (γ := []) (H' := []) (F' := fwdA bf bl 64 (lstn 0) * F) (lv := .raw (.pointer (some ⟨bf, 0, none⟩))) rfl rfl rfl rfl (he2.eq (one_mul _).symm) ?_⟩
  clear he1 he2
  refine Go.run mixed 300 [] rfl ?_
  refine Ok.eq (r' := Res.stop { stk := [It.code [1, 1, 1, 1, 0, 1, 0], It.blk 0, It.code [1, 1, 1, 1, 1]], fr := [(10, LV.int IntKind.i64 (0 : Int)), (9, LV.raw (Value.pointer (some { block := bf, off := 0 }))), (8, LV.int IntKind.i64 (IntKind.wrap IntKind.i64 ((1 : Int) + ibits BinOp.and IntKind.i64 n (15 : Int)))), (7, LV.bool true), (6, LV.cst (Value.bool false)), (0, LV.int IntKind.u16 a), (1, LV.int IntKind.u16 b), (2, LV.int IntKind.i64 n)], H := [], nx := 0, orc := [] }) (by kernel_rfl) ?_
  obtain ⟨m, hm, hand⟩ := and15 n
  obtain ⟨kk, hkk⟩ : ∃ kk : Nat, kk = m + 1 := ⟨_, rfl⟩
  have hk8 : IntKind.i64.wrap (1 + ibits .and .i64 n 15) = (kk : Int) := by rw [hand, IntWalk.i64_in _ (by omega)]; omega
  rw [hk8]
  refine fun _ => Go.loop (ι := (Nat × { j : Nat // j ≤ 3 })) (fun i => (fwdA bf bl 64 (lstn i.2.1) * F, [],
    [(10, .int .i64 i.2.1), (9, .raw (.pointer (some ⟨bf, 0, none⟩))), (8, .int .i64 kk), (7, .bool true), (0, .int .u16 a), (1, .int .u16 b)], []))
    (fun i => 3 - i.2.1) rfl (0, ⟨0, by omega⟩) (fun w hs => ⟨FrEq.of_all ⟨rfl, rfl, rfl, rfl, rfl, rfl, trivial⟩, rfl, hs⟩) ?_
  intro ⟨_, j, hj⟩ rec
  dsimp only
  refine Go.run mixed 300 [] rfl ?_
  refine Ok.eq (r' := Res.ite (decide ((↑j : Int) < (3 : Int))) (Res.stop { stk := [It.reg [1, 1, 1, 1, 0, 1, 0, 0, 1, 0, 0, 0] [2, 3], It.code [1, 1, 1, 1, 0, 1, 0, 0, 1, 0, 0, 1], It.blk 1, It.code [1, 1, 1, 1, 0, 1, 0, 0, 1, 1], It.lp [1, 1, 1, 1, 0, 1, 0, 0], It.blk 0, It.code [1, 1, 1, 1, 1]], fr := [(26, LV.int IntKind.i64 (↑j : Int)), (25, LV.raw (Value.pointer (some { block := bf, off := 0 }))), (10, LV.int IntKind.i64 (↑j : Int)), (9, LV.raw (Value.pointer (some { block := bf, off := 0 }))), (8, LV.int IntKind.i64 (↑kk : Int)), (7, LV.bool true), (0, LV.int IntKind.u16 a), (1, LV.int IntKind.u16 b)], H := [], nx := 0, orc := [] }) (Res.stop { stk := [It.code [1, 1, 1, 1, 1, 0, 1, 0], It.blk 2, It.code [1, 1, 1, 1, 1, 1]], fr := [(11, LV.int IntKind.i64 (0 : Int)), (10, LV.int IntKind.i64 (↑j : Int)), (9, LV.raw (Value.pointer (some { block := bf, off := 0 }))), (8, LV.int IntKind.i64 (↑kk : Int)), (7, LV.bool true), (0, LV.int IntKind.u16 a), (1, LV.int IntKind.u16 b)], H := [], nx := 0, orc := [] })) (by kernel_rfl) ?_
  refine ⟨fun hlt => ?_, fun hge => ?_⟩
  · have hlt' : j < 3 := by simp at hlt; omega
    have hset : (lstn j).set j (newA true) = lstn (j + 1) := by
      have : j = 0 ∨ j = 1 ∨ j = 2 := by omega
      rcases this with rfl | rfl | rfl <;> rfl
    have hget : (lstn j)[j]? = some (newA false) := by
      have : j = 0 ∨ j = 1 ∨ j = 2 := by omega
      rcases this with rfl | rfl | rfl <;> rfl
    refine fun _ => Go.callV (.int .i64 0) [] (fwdA bf bl 64 (lstn (j + 1)) * F) rfl rfl rfl rfl rfl rfl rfl (fun w hs => (listenA_spec (w0 := w0) (k := j) (a := newA false) hget rfl hs.right).mono fun e w' he => ⟨he.1, (by have := he.2; rw [hset] at this; exact this.eq (one_mul _).symm)⟩) ?_
    refine Go.run mixed 300 [] rfl ?_
    refine Ok.eq (r' := Res.ite false (Res.leave Leave.ret { stk := [It.code [1, 1, 1, 1, 0, 1, 0, 0, 1, 0, 0, 1, 0, 1], It.blk 1, It.code [1, 1, 1, 1, 0, 1, 0, 0, 1, 1], It.lp [1, 1, 1, 1, 0, 1, 0, 0], It.blk 0, It.code [1, 1, 1, 1, 1]], fr := [(6, LV.cst (Value.bool false)), (10, LV.int IntKind.i64 (↑j : Int)), (9, LV.raw (Value.pointer (some { block := bf, off := 0 }))), (8, LV.int IntKind.i64 (↑kk : Int)), (7, LV.bool true), (0, LV.int IntKind.u16 a), (1, LV.int IntKind.u16 b)], H := [], nx := 0, orc := [] }) (Res.stop { stk := [It.lp [1, 1, 1, 1, 0, 1, 0, 0], It.blk 0, It.code [1, 1, 1, 1, 1]], fr := [(10, LV.int IntKind.i64 (IntKind.wrap IntKind.i64 ((↑j : Int) + (1 : Int)))), (9, LV.raw (Value.pointer (some { block := bf, off := 0 }))), (8, LV.int IntKind.i64 (↑kk : Int)), (7, LV.bool true), (0, LV.int IntKind.u16 a), (1, LV.int IntKind.u16 b)], H := [], nx := 0, orc := [] })) (by kernel_rfl) ?_
    have hrec := rec (0, ⟨j + 1, hlt'⟩) (by show 3 - (j + 1) < 3 - j; omega)
    have hwr : IntKind.i64.wrap ((j : Int) + 1) = ((j + 1 : Nat) : Int) := by rw [IntWalk.i64_in _ (by omega)]; omega
    refine ⟨fun h => by simp at h, fun _ => fun _ => Go.again hrec (fun _ => rfl) fun w hs => ⟨⟨congrArg (Value.int .i64) hwr.symm, rfl, rfl, rfl, rfl, rfl, trivial⟩, rfl, hs⟩⟩
  · have hj3 : j = 3 := by simp at hge; omega
    subst hj3
    clear rec
    have hz : lstn 3 = many a b 0 0 (inter 0) := rfl
    rw [hz]
    refine fun _ => Go.loop (ι := (Nat × { i : Nat // i ≤ kk })) (fun i => (fwdA bf bl 64 (many a b i.2.1 i.2.1 (inter i.2.1)) * F, [],
      [(11, .int .i64 i.2.1), (9, .raw (.pointer (some ⟨bf, 0, none⟩))), (8, .int .i64 kk), (7, .bool true), (0, .int .u16 a), (1, .int .u16 b)], []))
      (fun i => kk - i.2.1) rfl (0, ⟨0, by omega⟩) (fun w hs => ⟨FrEq.of_all ⟨rfl, rfl, rfl, rfl, rfl, rfl, trivial⟩, rfl, hs⟩) ?_
    intro ⟨_, i, hi⟩ rec
    dsimp only
    refine Go.run mixed 300 [] rfl ?_
    refine Ok.eq (r' := Res.ite (decide ((↑i : Int) < (↑kk : Int))) (Res.stop { stk := [It.reg [1, 1, 1, 1, 1, 0, 1, 0, 0, 1, 0, 0, 0] [6], It.code [1, 1, 1, 1, 1, 0, 1, 0, 0, 1, 0, 0, 1], It.blk 3, It.code [1, 1, 1, 1, 1, 0, 1, 0, 0, 1, 1], It.lp [1, 1, 1, 1, 1, 0, 1, 0, 0], It.blk 2, It.code [1, 1, 1, 1, 1, 1]], fr := [(39, LV.agg [LV.cst (Value.bool false), LV.int IntKind.u8 (0 : Int), LV.int IntKind.u16 (IntKind.wrap IntKind.u16 (a + IntKind.wrap IntKind.u16 (↑i : Int))), LV.int IntKind.u32 (0 : Int), LV.int IntKind.u32 (9 : Int), LV.cst (Value.slice none 0 0)]), (38, LV.int IntKind.u16 (IntKind.wrap IntKind.u16 (a + IntKind.wrap IntKind.u16 (↑i : Int)))), (37, LV.int IntKind.u16 (IntKind.wrap IntKind.u16 (↑i : Int))), (36, LV.int IntKind.i64 (↑i : Int)), (35, LV.int IntKind.u16 a), (34, LV.raw (Value.pointer (some { block := bf, off := 0 }))), (11, LV.int IntKind.i64 (↑i : Int)), (9, LV.raw (Value.pointer (some { block := bf, off := 0 }))), (8, LV.int IntKind.i64 (↑kk : Int)), (7, LV.bool true), (0, LV.int IntKind.u16 a), (1, LV.int IntKind.u16 b)], H := [], nx := 0, orc := [] }) (Res.stop { stk := [It.code [1, 1, 1, 1, 1, 1, 1, 1, 0, 0], It.blk 4, It.code [1, 1, 1, 1, 1, 1, 1, 1, 1]], fr := [(13, LV.int IntKind.i64 (0 : Int)), (12, LV.int IntKind.i64 (0 : Int)), (11, LV.int IntKind.i64 (↑i : Int)), (9, LV.raw (Value.pointer (some { block := bf, off := 0 }))), (8, LV.int IntKind.i64 (↑kk : Int)), (7, LV.bool true), (0, LV.int IntKind.u16 a), (1, LV.int IntKind.u16 b)], H := [], nx := 0, orc := [] })) (by kernel_rfl) ?_
    refine ⟨fun hlt => ?_, fun hge => ?_⟩
    · have hlt' : i < kk := by simp at hlt; omega
      have hil := inter_len i
      have hw1 : ∀ y ∈ many a b i i (inter i), y.wait.length ≤ 1000 := by intro y hy; simp [many] at hy; rcases hy with rfl | rfl | rfl <;> simp [hil] <;> omega
      have hw2 : ∀ y ∈ many a b (i + 1) i (inter i ++ [got 1 1 i]), y.wait.length ≤ 1000 := by intro y hy; simp [many] at hy; rcases hy with rfl | rfl | rfl <;> simp [hil] <;> omega
      have hs1 : IntKind.u16.wrap (a + IntKind.u16.wrap (i : Int)) = sq a 1 i := by simp [sq]
      rw [hs1]
      refine fun _ => Go.callV (.tup [.int .i64 2, .int .i64 0]) [] (fwdA bf bl 64 (many a b (i + 1) i (inter i ++ [got 1 1 i])) * F) rfl rfl rfl rfl rfl rfl rfl (fun w hs => ?_) ?_
      · refine (hearA_spec (w0 := w0) (F := F) (L := many a b i i (inter i)) (bf := bf) (bl := bl) (room := 64) (party := 0) rfl rfl ⟨false, 0, sq a 1 i, 0, 9, none, 0, 0, []⟩ rfl (by decide) (by simp [many]) hw1 ((own_nil (e := 5) (sz := 1) hs.right).eq (star_left _ _ _))).mono fun e w' he => ?_
        have hh := many_hear0 a b i i (inter i) (by omega) (by omega)
        rw [show (Pkt.abs ⟨false, 0, sq a 1 i, 0, 9, none, 0, 0, []⟩) = pkA a 1 i from rfl, show (many a b i i (inter i)).length = 3 from rfl, hh] at he
        exact ⟨he.1, (Sat.right (he.2.eq (star_left _ _ _))).eq (one_mul _).symm⟩
      refine Go.run mixed 300 [] rfl ?_
      refine Ok.eq (r' := Res.stop { stk := [It.reg [1, 1, 1, 1, 1, 0, 1, 0, 0, 1, 0, 0, 1] [7], It.blk 3, It.code [1, 1, 1, 1, 1, 0, 1, 0, 0, 1, 1], It.lp [1, 1, 1, 1, 1, 0, 1, 0, 0], It.blk 2, It.code [1, 1, 1, 1, 1, 1]], fr := [(47, LV.agg [LV.cst (Value.bool false), LV.int IntKind.u8 (0 : Int), LV.int IntKind.u16 (IntKind.wrap IntKind.u16 (b + IntKind.wrap IntKind.u16 (IntKind.wrap IntKind.i64 ((2 : Int) * (↑i : Int))))), LV.int IntKind.u32 (0 : Int), LV.int IntKind.u32 (9 : Int), LV.cst (Value.slice none 0 0)]), (46, LV.int IntKind.u16 (IntKind.wrap IntKind.u16 (b + IntKind.wrap IntKind.u16 (IntKind.wrap IntKind.i64 ((2 : Int) * (↑i : Int)))))), (45, LV.int IntKind.u16 (IntKind.wrap IntKind.u16 (IntKind.wrap IntKind.i64 ((2 : Int) * (↑i : Int))))), (44, LV.int IntKind.i64 (IntKind.wrap IntKind.i64 ((2 : Int) * (↑i : Int)))), (43, LV.int IntKind.i64 (↑i : Int)), (42, LV.int IntKind.u16 b), (41, LV.raw (Value.pointer (some { block := bf, off := 0 }))), (11, LV.int IntKind.i64 (↑i : Int)), (9, LV.raw (Value.pointer (some { block := bf, off := 0 }))), (8, LV.int IntKind.i64 (↑kk : Int)), (7, LV.bool true), (0, LV.int IntKind.u16 a), (1, LV.int IntKind.u16 b)], H := [], nx := 0, orc := [] }) (by kernel_rfl) ?_
      have hs2 : IntKind.u16.wrap (b + IntKind.u16.wrap (IntKind.i64.wrap (2 * (i : Int)))) = sq b 2 i := by rw [IntWalk.i64_in _ (by omega)]; simp [sq]
      rw [hs2]
      refine fun _ => Go.callV (.tup [.int .i64 2, .int .i64 0]) [] (fwdA bf bl 64 (many a b (i + 1) (i + 1) (inter (i + 1))) * F) rfl rfl rfl rfl rfl rfl rfl (fun w hs => ?_) ?_
      · refine (hearA_spec (w0 := w0) (F := F) (L := many a b (i + 1) i (inter i ++ [got 1 1 i])) (bf := bf) (bl := bl) (room := 64) (party := 1) rfl rfl ⟨false, 0, sq b 2 i, 0, 9, none, 0, 0, []⟩ rfl (by decide) (by simp [many]) hw2 ((own_nil (e := 5) (sz := 1) hs.right).eq (star_left _ _ _))).mono fun e w' he => ?_
        have hh := many_hear1 a b (i + 1) i (inter i ++ [got 1 1 i]) (by omega) (by simp [hil]; omega)
        rw [show (Pkt.abs ⟨false, 0, sq b 2 i, 0, 9, none, 0, 0, []⟩) = pkA b 2 i from rfl, show (many a b (i + 1) i (inter i ++ [got 1 1 i])).length = 3 from rfl, hh] at he
        exact ⟨he.1, (Sat.right (he.2.eq (star_left _ _ _))).eq (one_mul _).symm⟩
      refine Go.run mixed 300 [] rfl ?_
      refine Ok.eq (r' := Res.stop { stk := [It.lp [1, 1, 1, 1, 1, 0, 1, 0, 0], It.blk 2, It.code [1, 1, 1, 1, 1, 1]], fr := [(11, LV.int IntKind.i64 (IntKind.wrap IntKind.i64 ((↑i : Int) + (1 : Int)))), (9, LV.raw (Value.pointer (some { block := bf, off := 0 }))), (8, LV.int IntKind.i64 (↑kk : Int)), (7, LV.bool true), (0, LV.int IntKind.u16 a), (1, LV.int IntKind.u16 b)], H := [], nx := 0, orc := [] }) (by kernel_rfl) ?_
      have hrec := rec (0, ⟨i + 1, hlt'⟩) (by show kk - (i + 1) < kk - i; omega)
      have hwr : IntKind.i64.wrap ((i : Int) + 1) = ((i + 1 : Nat) : Int) := by rw [IntWalk.i64_in _ (by omega)]; omega
      exact fun _ => Go.again hrec (fun _ => rfl) fun w hs => ⟨⟨congrArg (Value.int .i64) hwr.symm, rfl, rfl, rfl, rfl, rfl, trivial⟩, rfl, hs⟩
    · have hik : i = kk := by simp at hge; omega
      subst hik
      clear rec
      have hil := inter_len i
      have hz2 : many a b i i (inter i) = pulled a b i 0 := by simp [many, pulled]
      rw [hz2]
      refine fun _ => Go.loop (ι := (Nat × { t : Nat // t ≤ 2 * i })) (fun j => (fwdA bf bl 64 (pulled a b i j.2.1) * F, [],
        [(13, .int .i64 (j.2.1 / 2 : Nat)), (12, .int .i64 ((j.2.1 + 1) / 2 : Nat)), (9, .raw (.pointer (some ⟨bf, 0, none⟩))), (8, .int .i64 i), (7, .bool true), (0, .int .u16 a), (1, .int .u16 b)], []))
        (fun j => 2 * i - j.2.1) rfl (0, ⟨0, Nat.zero_le _⟩) (fun w hs => ⟨FrEq.of_all ⟨(by show Value.int .i64 (((0 : Nat) / 2 : Nat) : Int) = Value.int .i64 0; simp), (by show Value.int .i64 (((0 + 1 : Nat) / 2 : Nat) : Int) = Value.int .i64 0; simp), rfl, rfl, rfl, rfl, rfl, trivial⟩, rfl, hs⟩) ?_
      intro ⟨_, t, ht⟩ rec
      dsimp only
      refine Go.run mixed 300 [] rfl ?_
      refine Ok.eq (r' := Res.stop { stk := [It.reg [1, 1, 1, 1, 1, 1, 1, 1, 0, 0, 0, 0, 0] [1, 2, 3, 4, 5, 6, 7], It.code [1, 1, 1, 1, 1, 1, 1, 1, 0, 0, 0, 0, 1], It.blk 5, It.lp [1, 1, 1, 1, 1, 1, 1, 1, 0, 0, 0], It.blk 4, It.code [1, 1, 1, 1, 1, 1, 1, 1, 1]], fr := [(50, LV.raw (Value.pointer (some { block := bf, off := 0 }))), (13, LV.int IntKind.i64 (↑(t / 2) : Int)), (12, LV.int IntKind.i64 (↑((t + 1) / 2) : Int)), (9, LV.raw (Value.pointer (some { block := bf, off := 0 }))), (8, LV.int IntKind.i64 (↑i : Int)), (7, LV.bool true), (0, LV.int IntKind.u16 a), (1, LV.int IntKind.u16 b)], H := [], nx := 0, orc := [] }) (by kernel_rfl) ?_
      by_cases hte : t = 2 * i
      · subst hte
        have hd0 : (inter i).drop (2 * i) = [] := List.drop_of_length_le (by omega)
        refine fun _ => Go.callV (.tup [.agg [.bool false, .int .u8 0, .int .u16 0, .int .u32 0, .int .u32 0, .cst (.slice none 0 0)], .bool false]) [] (fwdA bf bl 64 (pulled a b i (2 * i)) * F) rfl rfl rfl rfl rfl rfl rfl (fun w hs => ?_) ?_
        · exact (pullA_none (w0 := w0) (k := 2) rfl hd0 hs.right).mono fun e w' he => ⟨he.1, he.2.eq (one_mul _).symm⟩
        refine Go.run mixed 300 [] rfl ?_
        refine Ok.eq (r' := Res.new (Res.ite true (Res.ite (true && (↑((2 * i + 1) / 2) : Int) == (↑i : Int) && (↑(2 * i / 2) : Int) == (↑i : Int)) (Res.stop { stk := [It.reg [1, 1, 1, 1, 1, 1, 1, 1, 1, 0] [13, 14, 15, 16, 17, 18, 19, 20, 21, 22, 23], It.code [1, 1, 1, 1, 1, 1, 1, 1, 1, 1]], fr := [(92, LV.cst (Value.bool true)), (93, LV.raw (Value.pointer (some { block := bf, off := 0 }))), (91, LV.bool (true && (↑((2 * i + 1) / 2) : Int) == (↑i : Int) && (↑(2 * i / 2) : Int) == (↑i : Int))), (87, LV.bool (true && (↑((2 * i + 1) / 2) : Int) == (↑i : Int))), (86, LV.bool (true && (↑((2 * i + 1) / 2) : Int) == (↑i : Int))), (82, LV.bool true), (81, LV.bool true), (15, LV.bool false), (14, LV.ptr 0 0), (13, LV.int IntKind.i64 (↑(2 * i / 2) : Int)), (12, LV.int IntKind.i64 (↑((2 * i + 1) / 2) : Int)), (9, LV.raw (Value.pointer (some { block := bf, off := 0 }))), (8, LV.int IntKind.i64 (↑i : Int)), (7, LV.bool true), (0, LV.int IntKind.u16 a), (1, LV.int IntKind.u16 b)], H := [(0, LO.lay [LV.bool false, LV.int IntKind.u8 (0 : Int), LV.int IntKind.u16 (0 : Int), LV.int IntKind.u32 (0 : Int), LV.int IntKind.u32 (0 : Int), LV.cst (Value.slice none 0 0)] 33)], nx := 1, orc := [] }) (Res.leave Leave.ret { stk := [It.code [1, 1, 1, 1, 1, 1, 1, 1, 1, 1]], fr := [(6, LV.cst (Value.bool false)), (15, LV.bool false), (14, LV.ptr 0 0), (13, LV.int IntKind.i64 (↑(2 * i / 2) : Int)), (12, LV.int IntKind.i64 (↑((2 * i + 1) / 2) : Int)), (9, LV.raw (Value.pointer (some { block := bf, off := 0 }))), (8, LV.int IntKind.i64 (↑i : Int)), (7, LV.bool true), (0, LV.int IntKind.u16 a), (1, LV.int IntKind.u16 b)], H := [(0, LO.lay [LV.bool false, LV.int IntKind.u8 (0 : Int), LV.int IntKind.u16 (0 : Int), LV.int IntKind.u32 (0 : Int), LV.int IntKind.u32 (0 : Int), LV.cst (Value.slice none 0 0)] 33)], nx := 1, orc := [] })) (Res.ite (false && IntKind.wrap IntKind.i64 (0 : Int) == (↑((2 * i + 1) / 2) : Int)) (Res.stop { stk := [It.lp [1, 1, 1, 1, 1, 1, 1, 1, 0, 0, 0], It.blk 4, It.code [1, 1, 1, 1, 1, 1, 1, 1, 1]], fr := [(12, LV.int IntKind.i64 (IntKind.wrap IntKind.i64 ((↑((2 * i + 1) / 2) : Int) + (1 : Int)))), (15, LV.bool false), (14, LV.ptr 0 0), (13, LV.int IntKind.i64 (↑(2 * i / 2) : Int)), (9, LV.raw (Value.pointer (some { block := bf, off := 0 }))), (8, LV.int IntKind.i64 (↑i : Int)), (7, LV.bool true), (0, LV.int IntKind.u16 a), (1, LV.int IntKind.u16 b)], H := [(0, LO.lay [LV.bool false, LV.int IntKind.u8 (0 : Int), LV.int IntKind.u16 (0 : Int), LV.int IntKind.u32 (0 : Int), LV.int IntKind.u32 (0 : Int), LV.cst (Value.slice none 0 0)] 33)], nx := 1, orc := [] }) (Res.ite (false && IntKind.wrap IntKind.i64 (0 : Int) == IntKind.wrap IntKind.i64 ((2 : Int) * (↑(2 * i / 2) : Int))) (Res.stop { stk := [It.lp [1, 1, 1, 1, 1, 1, 1, 1, 0, 0, 0], It.blk 4, It.code [1, 1, 1, 1, 1, 1, 1, 1, 1]], fr := [(13, LV.int IntKind.i64 (IntKind.wrap IntKind.i64 ((↑(2 * i / 2) : Int) + (1 : Int)))), (15, LV.bool false), (14, LV.ptr 0 0), (12, LV.int IntKind.i64 (↑((2 * i + 1) / 2) : Int)), (9, LV.raw (Value.pointer (some { block := bf, off := 0 }))), (8, LV.int IntKind.i64 (↑i : Int)), (7, LV.bool true), (0, LV.int IntKind.u16 a), (1, LV.int IntKind.u16 b)], H := [(0, LO.lay [LV.bool false, LV.int IntKind.u8 (0 : Int), LV.int IntKind.u16 (0 : Int), LV.int IntKind.u32 (0 : Int), LV.int IntKind.u32 (0 : Int), LV.cst (Value.slice none 0 0)] 33)], nx := 1, orc := [] }) (Res.leave Leave.ret { stk := [It.code [1, 1, 1, 1, 1, 1, 1, 1, 0, 0, 0, 0, 1, 1, 1, 1, 1, 1, 1], It.blk 5, It.lp [1, 1, 1, 1, 1, 1, 1, 1, 0, 0, 0], It.blk 4, It.code [1, 1, 1, 1, 1, 1, 1, 1, 1]], fr := [(6, LV.cst (Value.bool false)), (15, LV.bool false), (14, LV.ptr 0 0), (13, LV.int IntKind.i64 (↑(2 * i / 2) : Int)), (12, LV.int IntKind.i64 (↑((2 * i + 1) / 2) : Int)), (9, LV.raw (Value.pointer (some { block := bf, off := 0 }))), (8, LV.int IntKind.i64 (↑i : Int)), (7, LV.bool true), (0, LV.int IntKind.u16 a), (1, LV.int IntKind.u16 b)], H := [(0, LO.lay [LV.bool false, LV.int IntKind.u8 (0 : Int), LV.int IntKind.u16 (0 : Int), LV.int IntKind.u32 (0 : Int), LV.int IntKind.u32 (0 : Int), LV.cst (Value.slice none 0 0)] 33)], nx := 1, orc := [] }))))) (by kernel_rfl) ?_
        rw [show (2 * i + 1) / 2 = i by omega, show 2 * i / 2 = i by omega]
        refine fun b14 => ⟨fun _ => ⟨fun _ => ?_, fun h => by simp at h⟩, fun h => by simp at h⟩
        refine fun _ => Go.callV (.int .i64 i) [] (fwdA bf bl 64 (pulled a b i (2 * i)) * F) rfl rfl rfl rfl rfl rfl rfl (fun w hs => ?_) ?_
        · exact (waitingA_spec (w0 := w0) (k := 0) rfl hs.right).mono fun e w' he => ⟨by rw [he.1]; simp [den], he.2.eq (one_mul _).symm⟩
        refine Go.run mixed 300 [] rfl ?_
        refine Ok.eq (r' := Res.ite ((↑i : Int) == (↑i : Int)) (Res.stop { stk := [It.reg [1, 1, 1, 1, 1, 1, 1, 1, 1, 0] [19, 20, 21, 22, 23], It.code [1, 1, 1, 1, 1, 1, 1, 1, 1, 1]], fr := [(98, LV.cst (Value.bool true)), (99, LV.raw (Value.pointer (some { block := bf, off := 0 }))), (97, LV.bool ((↑i : Int) == (↑i : Int))), (96, LV.bool ((↑i : Int) == (↑i : Int))), (95, LV.int IntKind.i64 (↑i : Int)), (94, LV.int IntKind.i64 (↑i : Int)), (92, LV.cst (Value.bool true)), (93, LV.raw (Value.pointer (some { block := bf, off := 0 }))), (91, LV.bool (true && (↑i : Int) == (↑i : Int) && (↑i : Int) == (↑i : Int))), (87, LV.bool (true && (↑i : Int) == (↑i : Int))), (86, LV.bool (true && (↑i : Int) == (↑i : Int))), (82, LV.bool true), (81, LV.bool true), (15, LV.bool false), (14, LV.ptr 0 0), (13, LV.int IntKind.i64 (↑i : Int)), (12, LV.int IntKind.i64 (↑i : Int)), (9, LV.raw (Value.pointer (some { block := bf, off := 0 }))), (8, LV.int IntKind.i64 (↑i : Int)), (7, LV.bool true), (0, LV.int IntKind.u16 a), (1, LV.int IntKind.u16 b)], H := [], nx := 1, orc := [] }) (Res.leave Leave.ret { stk := [It.code [1, 1, 1, 1, 1, 1, 1, 1, 1, 1]], fr := [(6, LV.cst (Value.bool false)), (15, LV.bool false), (14, LV.ptr 0 0), (13, LV.int IntKind.i64 (↑i : Int)), (12, LV.int IntKind.i64 (↑i : Int)), (9, LV.raw (Value.pointer (some { block := bf, off := 0 }))), (8, LV.int IntKind.i64 (↑i : Int)), (7, LV.bool true), (0, LV.int IntKind.u16 a), (1, LV.int IntKind.u16 b)], H := [], nx := 1, orc := [] })) (by kernel_rfl) ?_
        refine ⟨fun _ => ?_, fun h => by simp at h⟩
        refine fun _ => Go.callV (.int .i64 i) [] (fwdA bf bl 64 (pulled a b i (2 * i)) * F) rfl rfl rfl rfl rfl rfl rfl (fun w hs => ?_) ?_
        · exact (waitingA_spec (w0 := w0) (k := 1) rfl hs.right).mono fun e w' he => ⟨by rw [he.1]; simp [den], he.2.eq (one_mul _).symm⟩
        refine Go.run mixed 300 [] rfl ?_
        refine Ok.eq (r' := Res.leave Leave.ret { stk := [It.code [1, 1, 1, 1, 1, 1, 1, 1, 1, 1]], fr := [(6, LV.bool ((↑i : Int) == (↑i : Int))), (15, LV.bool false), (14, LV.ptr 0 0), (13, LV.int IntKind.i64 (↑i : Int)), (12, LV.int IntKind.i64 (↑i : Int)), (9, LV.raw (Value.pointer (some { block := bf, off := 0 }))), (8, LV.int IntKind.i64 (↑i : Int)), (7, LV.bool true), (0, LV.int IntKind.u16 a), (1, LV.int IntKind.u16 b)], H := [], nx := 1, orc := [] }) (by kernel_rfl) ?_
        refine leave_ok (fun _ => nofun) rfl fun w hs => ⟨?_, hs.right.right⟩
        simp [den]
      · have htl : t < 2 * i := by omega
        have hl2 : ((inter i).drop t).length ≤ 100000 := by simp [hil]; omega
        have hwr2 : ∀ q : Nat, q ≤ 100 → IntKind.i64.wrap ((q : Int) + 1) = ((q + 1 : Nat) : Int) := fun q hq => by rw [IntWalk.i64_in _ (by omega)]; omega
        have hrec := rec (0, ⟨t + 1, htl⟩) (by show 2 * i - (t + 1) < 2 * i - t; omega)
        dsimp only at hrec
        obtain ⟨q, hq⟩ : ∃ q, q = t / 2 := ⟨_, rfl⟩
        have hqi : q < i := by omega
        obtain ⟨g1, g2⟩ := inter_get hqi
        rcases Nat.mod_two_eq_zero_or_one t with h2 | h2
        · have ht2 : t = 2 * q := by omega
          rw [← ht2] at g1
          refine fun _ => Go.call rfl rfl rfl rfl rfl fun w hs => (pullA_spec (w0 := w0) (k := 2) rfl (drop_of_get g1) hl2 hs.right).mono fun e w' he => ?_
          obtain ⟨p1, hp1, he1, he2⟩ := he
          obtain ⟨m1, k1, s1, t1, r1, d1, n1, c1, y1⟩ := p1
          simp only [Pkt.abs, got, PktA.mk.injEq] at hp1
          obtain ⟨rfl, rfl, rfl, rfl, rfl, rfl⟩ := hp1
          refine ⟨_, he1, After.keep (γ := []) (H' := []) (F' := fwdA bf bl 64 (pulled a b i (t + 1)) * F) (lv := .tup [.agg [.bool false, .int .u8 0, .int .u16 (1 * q : Nat), .int .u32 0, .int .u32 1, .raw (.slice d1 n1 c1)], .bool true]) rfl rfl rfl rfl ?_ ?_⟩
          · exact (Sat.right (he2.eq (star_left _ _ _))).eq (one_mul _).symm
          clear he1 he2
          rw [show (t + 1) / 2 = q by omega, show t / 2 = q by omega]
          rw [show (t + 1) / 2 = q by omega, show (t + 1 + 1) / 2 = q + 1 by omega] at hrec
          refine Go.run mixed 300 [] rfl ?_
          refine Ok.eq (r' := Res.new (Res.need [fun x ↦ Value.one (Value.slice d1 n1 c1) = true] (Res.ite false (Res.ite (true && (↑q : Int) == (↑i : Int) && (↑q : Int) == (↑i : Int)) (Res.stop { stk := [It.reg [1, 1, 1, 1, 1, 1, 1, 1, 1, 0] [13, 14, 15, 16, 17, 18, 19, 20, 21, 22, 23], It.code [1, 1, 1, 1, 1, 1, 1, 1, 1, 1]], fr := [(92, LV.cst (Value.bool true)), (93, LV.raw (Value.pointer (some { block := bf, off := 0 }))), (91, LV.bool (true && (↑q : Int) == (↑i : Int) && (↑q : Int) == (↑i : Int))), (87, LV.bool (true && (↑q : Int) == (↑i : Int))), (86, LV.bool (true && (↑q : Int) == (↑i : Int))), (82, LV.bool true), (81, LV.bool true), (15, LV.bool true), (14, LV.ptr 0 0), (13, LV.int IntKind.i64 (↑q : Int)), (12, LV.int IntKind.i64 (↑q : Int)), (9, LV.raw (Value.pointer (some { block := bf, off := 0 }))), (8, LV.int IntKind.i64 (↑i : Int)), (7, LV.bool true), (0, LV.int IntKind.u16 a), (1, LV.int IntKind.u16 b)], H := [(0, LO.lay [LV.bool false, LV.int IntKind.u8 (0 : Int), LV.int IntKind.u16 (↑(1 * q) : Int), LV.int IntKind.u32 (0 : Int), LV.int IntKind.u32 (1 : Int), LV.raw (Value.slice d1 n1 c1)] 33)], nx := 1, orc := [] }) (Res.leave Leave.ret { stk := [It.code [1, 1, 1, 1, 1, 1, 1, 1, 1, 1]], fr := [(6, LV.cst (Value.bool false)), (15, LV.bool true), (14, LV.ptr 0 0), (13, LV.int IntKind.i64 (↑q : Int)), (12, LV.int IntKind.i64 (↑q : Int)), (9, LV.raw (Value.pointer (some { block := bf, off := 0 }))), (8, LV.int IntKind.i64 (↑i : Int)), (7, LV.bool true), (0, LV.int IntKind.u16 a), (1, LV.int IntKind.u16 b)], H := [(0, LO.lay [LV.bool false, LV.int IntKind.u8 (0 : Int), LV.int IntKind.u16 (↑(1 * q) : Int), LV.int IntKind.u32 (0 : Int), LV.int IntKind.u32 (1 : Int), LV.raw (Value.slice d1 n1 c1)] 33)], nx := 1, orc := [] })) (Res.ite (true && IntKind.wrap IntKind.i64 (↑(1 * q) : Int) == (↑q : Int)) (Res.stop { stk := [It.lp [1, 1, 1, 1, 1, 1, 1, 1, 0, 0, 0], It.blk 4, It.code [1, 1, 1, 1, 1, 1, 1, 1, 1]], fr := [(12, LV.int IntKind.i64 (IntKind.wrap IntKind.i64 ((↑q : Int) + (1 : Int)))), (15, LV.bool true), (14, LV.ptr 0 0), (13, LV.int IntKind.i64 (↑q : Int)), (9, LV.raw (Value.pointer (some { block := bf, off := 0 }))), (8, LV.int IntKind.i64 (↑i : Int)), (7, LV.bool true), (0, LV.int IntKind.u16 a), (1, LV.int IntKind.u16 b)], H := [(0, LO.lay [LV.bool false, LV.int IntKind.u8 (0 : Int), LV.int IntKind.u16 (↑(1 * q) : Int), LV.int IntKind.u32 (0 : Int), LV.int IntKind.u32 (1 : Int), LV.raw (Value.slice d1 n1 c1)] 33)], nx := 1, orc := [] }) (Res.ite (false && IntKind.wrap IntKind.i64 (↑(1 * q) : Int) == IntKind.wrap IntKind.i64 ((2 : Int) * (↑q : Int))) (Res.stop { stk := [It.lp [1, 1, 1, 1, 1, 1, 1, 1, 0, 0, 0], It.blk 4, It.code [1, 1, 1, 1, 1, 1, 1, 1, 1]], fr := [(13, LV.int IntKind.i64 (IntKind.wrap IntKind.i64 ((↑q : Int) + (1 : Int)))), (15, LV.bool true), (14, LV.ptr 0 0), (12, LV.int IntKind.i64 (↑q : Int)), (9, LV.raw (Value.pointer (some { block := bf, off := 0 }))), (8, LV.int IntKind.i64 (↑i : Int)), (7, LV.bool true), (0, LV.int IntKind.u16 a), (1, LV.int IntKind.u16 b)], H := [(0, LO.lay [LV.bool false, LV.int IntKind.u8 (0 : Int), LV.int IntKind.u16 (↑(1 * q) : Int), LV.int IntKind.u32 (0 : Int), LV.int IntKind.u32 (1 : Int), LV.raw (Value.slice d1 n1 c1)] 33)], nx := 1, orc := [] }) (Res.leave Leave.ret { stk := [It.code [1, 1, 1, 1, 1, 1, 1, 1, 0, 0, 0, 0, 1, 1, 1, 1, 1, 1, 1], It.blk 5, It.lp [1, 1, 1, 1, 1, 1, 1, 1, 0, 0, 0], It.blk 4, It.code [1, 1, 1, 1, 1, 1, 1, 1, 1]], fr := [(6, LV.cst (Value.bool false)), (15, LV.bool true), (14, LV.ptr 0 0), (13, LV.int IntKind.i64 (↑q : Int)), (12, LV.int IntKind.i64 (↑q : Int)), (9, LV.raw (Value.pointer (some { block := bf, off := 0 }))), (8, LV.int IntKind.i64 (↑i : Int)), (7, LV.bool true), (0, LV.int IntKind.u16 a), (1, LV.int IntKind.u16 b)], H := [(0, LO.lay [LV.bool false, LV.int IntKind.u8 (0 : Int), LV.int IntKind.u16 (↑(1 * q) : Int), LV.int IntKind.u32 (0 : Int), LV.int IntKind.u32 (1 : Int), LV.raw (Value.slice d1 n1 c1)] 33)], nx := 1, orc := [] })))))) (by kernel_rfl) ?_
          have hcq : IntKind.i64.wrap ((1 * q : Nat) : Int) = (q : Int) := by rw [IntWalk.i64_in _ (by omega)]; omega
          rw [hcq]
          refine fun b14 => ⟨⟨rfl, trivial⟩, fun h => by simp at h, fun _ => ⟨fun _ => fun _ => Go.again hrec (fun _ => rfl) fun w hs => ⟨⟨rfl, congrArg (Value.int .i64) (hwr2 q (by omega)).symm, rfl, rfl, rfl, rfl, rfl, trivial⟩, rfl, ?_⟩, fun h => by simp at h⟩⟩
          exact hs.right.eq (one_mul _).symm
        · have ht2 : t = 2 * q + 1 := by omega
          rw [← ht2] at g2
          refine fun _ => Go.call rfl rfl rfl rfl rfl fun w hs => (pullA_spec (w0 := w0) (k := 2) rfl (drop_of_get g2) hl2 hs.right).mono fun e w' he => ?_
          obtain ⟨p1, hp1, he1, he2⟩ := he
          obtain ⟨m1, k1, s1, t1, r1, d1, n1, c1, y1⟩ := p1
          simp only [Pkt.abs, got, PktA.mk.injEq] at hp1
          obtain ⟨rfl, rfl, rfl, rfl, rfl, rfl⟩ := hp1
          refine ⟨_, he1, After.keep (γ := []) (H' := []) (F' := fwdA bf bl 64 (pulled a b i (t + 1)) * F) (lv := .tup [.agg [.bool false, .int .u8 0, .int .u16 (2 * q : Nat), .int .u32 0, .int .u32 2, .raw (.slice d1 n1 c1)], .bool true]) rfl rfl rfl rfl ?_ ?_⟩
          · exact (Sat.right (he2.eq (star_left _ _ _))).eq (one_mul _).symm
          clear he1 he2
          rw [show (t + 1) / 2 = q + 1 by omega, show t / 2 = q by omega]
          rw [show (t + 1) / 2 = q + 1 by omega, show (t + 1 + 1) / 2 = q + 1 by omega] at hrec
          refine Go.run mixed 300 [] rfl ?_
          refine Ok.eq (r' := Res.new (Res.need [fun x ↦ Value.one (Value.slice d1 n1 c1) = true] (Res.ite false (Res.ite (true && (↑(q + 1) : Int) == (↑i : Int) && (↑q : Int) == (↑i : Int)) (Res.stop { stk := [It.reg [1, 1, 1, 1, 1, 1, 1, 1, 1, 0] [13, 14, 15, 16, 17, 18, 19, 20, 21, 22, 23], It.code [1, 1, 1, 1, 1, 1, 1, 1, 1, 1]], fr := [(92, LV.cst (Value.bool true)), (93, LV.raw (Value.pointer (some { block := bf, off := 0 }))), (91, LV.bool (true && (↑(q + 1) : Int) == (↑i : Int) && (↑q : Int) == (↑i : Int))), (87, LV.bool (true && (↑(q + 1) : Int) == (↑i : Int))), (86, LV.bool (true && (↑(q + 1) : Int) == (↑i : Int))), (82, LV.bool true), (81, LV.bool true), (15, LV.bool true), (14, LV.ptr 0 0), (13, LV.int IntKind.i64 (↑q : Int)), (12, LV.int IntKind.i64 (↑(q + 1) : Int)), (9, LV.raw (Value.pointer (some { block := bf, off := 0 }))), (8, LV.int IntKind.i64 (↑i : Int)), (7, LV.bool true), (0, LV.int IntKind.u16 a), (1, LV.int IntKind.u16 b)], H := [(0, LO.lay [LV.bool false, LV.int IntKind.u8 (0 : Int), LV.int IntKind.u16 (↑(2 * q) : Int), LV.int IntKind.u32 (0 : Int), LV.int IntKind.u32 (2 : Int), LV.raw (Value.slice d1 n1 c1)] 33)], nx := 1, orc := [] }) (Res.leave Leave.ret { stk := [It.code [1, 1, 1, 1, 1, 1, 1, 1, 1, 1]], fr := [(6, LV.cst (Value.bool false)), (15, LV.bool true), (14, LV.ptr 0 0), (13, LV.int IntKind.i64 (↑q : Int)), (12, LV.int IntKind.i64 (↑(q + 1) : Int)), (9, LV.raw (Value.pointer (some { block := bf, off := 0 }))), (8, LV.int IntKind.i64 (↑i : Int)), (7, LV.bool true), (0, LV.int IntKind.u16 a), (1, LV.int IntKind.u16 b)], H := [(0, LO.lay [LV.bool false, LV.int IntKind.u8 (0 : Int), LV.int IntKind.u16 (↑(2 * q) : Int), LV.int IntKind.u32 (0 : Int), LV.int IntKind.u32 (2 : Int), LV.raw (Value.slice d1 n1 c1)] 33)], nx := 1, orc := [] })) (Res.ite (false && IntKind.wrap IntKind.i64 (↑(2 * q) : Int) == (↑(q + 1) : Int)) (Res.stop { stk := [It.lp [1, 1, 1, 1, 1, 1, 1, 1, 0, 0, 0], It.blk 4, It.code [1, 1, 1, 1, 1, 1, 1, 1, 1]], fr := [(12, LV.int IntKind.i64 (IntKind.wrap IntKind.i64 ((↑(q + 1) : Int) + (1 : Int)))), (15, LV.bool true), (14, LV.ptr 0 0), (13, LV.int IntKind.i64 (↑q : Int)), (9, LV.raw (Value.pointer (some { block := bf, off := 0 }))), (8, LV.int IntKind.i64 (↑i : Int)), (7, LV.bool true), (0, LV.int IntKind.u16 a), (1, LV.int IntKind.u16 b)], H := [(0, LO.lay [LV.bool false, LV.int IntKind.u8 (0 : Int), LV.int IntKind.u16 (↑(2 * q) : Int), LV.int IntKind.u32 (0 : Int), LV.int IntKind.u32 (2 : Int), LV.raw (Value.slice d1 n1 c1)] 33)], nx := 1, orc := [] }) (Res.ite (true && IntKind.wrap IntKind.i64 (↑(2 * q) : Int) == IntKind.wrap IntKind.i64 ((2 : Int) * (↑q : Int))) (Res.stop { stk := [It.lp [1, 1, 1, 1, 1, 1, 1, 1, 0, 0, 0], It.blk 4, It.code [1, 1, 1, 1, 1, 1, 1, 1, 1]], fr := [(13, LV.int IntKind.i64 (IntKind.wrap IntKind.i64 ((↑q : Int) + (1 : Int)))), (15, LV.bool true), (14, LV.ptr 0 0), (12, LV.int IntKind.i64 (↑(q + 1) : Int)), (9, LV.raw (Value.pointer (some { block := bf, off := 0 }))), (8, LV.int IntKind.i64 (↑i : Int)), (7, LV.bool true), (0, LV.int IntKind.u16 a), (1, LV.int IntKind.u16 b)], H := [(0, LO.lay [LV.bool false, LV.int IntKind.u8 (0 : Int), LV.int IntKind.u16 (↑(2 * q) : Int), LV.int IntKind.u32 (0 : Int), LV.int IntKind.u32 (2 : Int), LV.raw (Value.slice d1 n1 c1)] 33)], nx := 1, orc := [] }) (Res.leave Leave.ret { stk := [It.code [1, 1, 1, 1, 1, 1, 1, 1, 0, 0, 0, 0, 1, 1, 1, 1, 1, 1, 1], It.blk 5, It.lp [1, 1, 1, 1, 1, 1, 1, 1, 0, 0, 0], It.blk 4, It.code [1, 1, 1, 1, 1, 1, 1, 1, 1]], fr := [(6, LV.cst (Value.bool false)), (15, LV.bool true), (14, LV.ptr 0 0), (13, LV.int IntKind.i64 (↑q : Int)), (12, LV.int IntKind.i64 (↑(q + 1) : Int)), (9, LV.raw (Value.pointer (some { block := bf, off := 0 }))), (8, LV.int IntKind.i64 (↑i : Int)), (7, LV.bool true), (0, LV.int IntKind.u16 a), (1, LV.int IntKind.u16 b)], H := [(0, LO.lay [LV.bool false, LV.int IntKind.u8 (0 : Int), LV.int IntKind.u16 (↑(2 * q) : Int), LV.int IntKind.u32 (0 : Int), LV.int IntKind.u32 (2 : Int), LV.raw (Value.slice d1 n1 c1)] 33)], nx := 1, orc := [] })))))) (by kernel_rfl) ?_
          have hcq : IntKind.i64.wrap ((2 * q : Nat) : Int) = 2 * (q : Int) := by rw [IntWalk.i64_in _ (by omega)]; omega
          have hcq2 : IntKind.i64.wrap (2 * (q : Int)) = 2 * (q : Int) := by rw [IntWalk.i64_in _ (by omega)]
          rw [hcq, hcq2]
          refine fun b14 => ⟨⟨rfl, trivial⟩, fun h => by simp at h, fun _ => ⟨fun h => by simp at h, fun _ => ⟨fun _ => fun _ => Go.again hrec (fun _ => rfl) fun w hs => ⟨⟨congrArg (Value.int .i64) (hwr2 q (by omega)).symm, rfl, rfl, rfl, rfl, rfl, rfl, trivial⟩, rfl, hs.right.eq (one_mul _).symm⟩, fun h => by simp at h⟩⟩⟩

end Go.Proofs.Ytaobahddincaiaa
