/- Layer 20: AudioParts, walked, where the first slice has no elements; and whatever both slices are. -/
import Derived.Test.YtaobahddincaiaaB4
namespace Go.Proofs.Ytaobahddincaiaa
open Go Go.E Go.Proofs

set_option maxRecDepth 100000 in
theorem parts_walk0 (room source : Int) (p1 : Option Addr) (c1 : Nat) (p2 : Option Addr) (n2 c2 : Nat) {w0 : World} {F : HP} {w : World} (hs : Sat w0 F w) :
    Calls Try.prog 4 #[.int .i64 room, .int .u32 source, .slice p1 0 c1, .slice p2 n2 c2] w fun e w' => e = .returned (.bool true) ∧ Sat w0 F w' := by
  refine Calls.enter (cfg := cfg4 w0) (β := []) (H := []) (F := F) (l := [.int .i64 room, .int .u32 source, .raw (.slice p1 0 c1), .raw (.slice p2 n2 c2)]) Try.func4 rfl rfl (Nat.le_of_ble_eq_true rfl) rfl (hs.eq (one_mul F).symm) ?_
  refine Go.run mixed 300 [] rfl ?_
  refine Ok.eq (r' := Res.stop { stk := [It.reg [1, 0] [0, 1], It.code [1, 1]], fr := [(8, LV.cst (Value.bool false)), (0, LV.int IntKind.i64 room), (1, LV.int IntKind.u32 source), (2, LV.raw (Value.slice p1 0 c1)), (3, LV.raw (Value.slice p2 n2 c2))], H := [], nx := 0, orc := [] }) (by kernel_rfl) ?_
  refine fun _ => Go.callV (.bool true) [] F rfl rfl rfl rfl rfl rfl rfl (fun w hs => (awake_spec (w0 := w0) hs.right).mono fun e w' he => ⟨he.1, he.2.eq (one_mul F).symm⟩) ?_
  refine Go.run mixed 300 [] rfl ?_
  refine Ok.eq (r' := Res.ite (false || decide ((↑n2 : Int) > (200 : Int))) (Res.leave Leave.ret { stk := [It.code [1, 1, 0, 1, 0, 1], It.code [1, 1, 1]], fr := [(8, LV.bool true), (9, LV.bool true), (0, LV.int IntKind.i64 room), (1, LV.int IntKind.u32 source), (2, LV.raw (Value.slice p1 0 c1)), (3, LV.raw (Value.slice p2 n2 c2))], H := [], nx := 0, orc := [] }) (Res.stop { stk := [It.reg [1, 1, 1, 0] [1, 2], It.code [1, 1, 1, 1]], fr := [(29, LV.int IntKind.i64 room), (9, LV.bool true), (8, LV.cst (Value.bool false)), (0, LV.int IntKind.i64 room), (1, LV.int IntKind.u32 source), (2, LV.raw (Value.slice p1 0 c1)), (3, LV.raw (Value.slice p2 n2 c2))], H := [], nx := 0, orc := [] })) (by kernel_rfl) ?_
  refine ⟨fun hbig => leave_ok (fun _ => nofun) rfl fun w hs => ⟨rfl, hs.right⟩, fun hsm => ?_⟩
  refine fun _ => Go.call rfl rfl rfl rfl rfl fun w hs => (newA_spec (w0 := w0) 2 (.inl rfl) room hs.right).mono fun e w' he => ?_
  obtain ⟨bf, bl, he1, he2⟩ := he
  obtain ⟨rm, hrm⟩ : ∃ rm, rm = clampI room 64 := ⟨_, rfl⟩
  refine ⟨_, he1, After.keep (γ := []) (H' := []) (F' := fwdA bf bl rm [newA false, newA false] * F) (lv := .raw (.pointer (some ⟨bf, 0, none⟩))) rfl rfl rfl rfl (by rw [hrm]; exact he2.eq (one_mul _).symm) ?_⟩
  clear he1 he2
  refine Go.run mixed 300 [] rfl ?_
  refine Ok.eq (r' := Res.stop { stk := [It.reg [1, 1, 1, 1, 0, 0] [1, 2, 3, 4, 5, 6, 7], It.code [1, 1, 1, 1, 0, 1], It.code [1, 1, 1, 1, 1]], fr := [(31, LV.raw (Value.pointer (some { block := bf, off := 0 }))), (10, LV.raw (Value.pointer (some { block := bf, off := 0 }))), (9, LV.bool true), (8, LV.cst (Value.bool false)), (0, LV.int IntKind.i64 room), (1, LV.int IntKind.u32 source), (2, LV.raw (Value.slice p1 0 c1)), (3, LV.raw (Value.slice p2 n2 c2))], H := [], nx := 0, orc := [] }) (by kernel_rfl) ?_
  refine fun _ => Go.callV (.int .i64 0) [] (fwdA bf bl rm [newA true, newA false] * F) rfl rfl rfl rfl rfl rfl rfl (fun w hs => (listenA_spec (w0 := w0) (k := 0) (a := newA false) rfl rfl hs.right).mono fun e w' he => ⟨he.1, he.2.eq (one_mul _).symm⟩) ?_
  refine Go.run mixed 300 [] rfl ?_
  refine Ok.eq (r' := Res.ite true (Res.stop { stk := [It.reg [1, 1, 1, 1, 0, 0] [5, 6, 7], It.code [1, 1, 1, 1, 0, 1], It.code [1, 1, 1, 1, 1]], fr := [(34, LV.cst (Value.bool false)), (35, LV.raw (Value.pointer (some { block := bf, off := 0 }))), (33, LV.bool false), (32, LV.int IntKind.i64 (0 : Int)), (31, LV.raw (Value.pointer (some { block := bf, off := 0 }))), (10, LV.raw (Value.pointer (some { block := bf, off := 0 }))), (9, LV.bool true), (8, LV.cst (Value.bool false)), (0, LV.int IntKind.i64 room), (1, LV.int IntKind.u32 source), (2, LV.raw (Value.slice p1 0 c1)), (3, LV.raw (Value.slice p2 n2 c2))], H := [], nx := 0, orc := [] }) (Res.leave Leave.ret { stk := [It.code [1, 1, 1, 1, 0, 1, 0, 1], It.code [1, 1, 1, 1, 1]], fr := [(8, LV.cst (Value.bool false)), (10, LV.raw (Value.pointer (some { block := bf, off := 0 }))), (9, LV.bool true), (0, LV.int IntKind.i64 room), (1, LV.int IntKind.u32 source), (2, LV.raw (Value.slice p1 0 c1)), (3, LV.raw (Value.slice p2 n2 c2))], H := [], nx := 0, orc := [] })) (by kernel_rfl) ?_
  refine ⟨fun _ => ?_, fun h => by simp at h⟩
  refine fun _ => Go.callV (.int .i64 0) [] (fwdA bf bl rm [newA true, newA true] * F) rfl rfl rfl rfl rfl rfl rfl (fun w hs => (listenA_spec (w0 := w0) (k := 1) (a := newA false) rfl rfl hs.right).mono fun e w' he => ⟨he.1, he.2.eq (one_mul _).symm⟩) ?_
  refine Go.run mixed 300 [] rfl ?_
  refine Ok.eq (r' := Res.ite false (Res.leave Leave.ret { stk := [It.code [1, 1, 1, 1, 0, 1, 0, 1], It.code [1, 1, 1, 1, 1]], fr := [(8, LV.cst (Value.bool false)), (10, LV.raw (Value.pointer (some { block := bf, off := 0 }))), (9, LV.bool true), (0, LV.int IntKind.i64 room), (1, LV.int IntKind.u32 source), (2, LV.raw (Value.slice p1 0 c1)), (3, LV.raw (Value.slice p2 n2 c2))], H := [], nx := 0, orc := [] }) (Res.stop { stk := [It.code [1, 1, 1, 1, 1, 1, 1, 0, 1, 0], It.blk 0, It.code [1, 1, 1, 1, 1, 1, 1, 1]], fr := [(13, LV.int IntKind.i64 (0 : Int)), (12, LV.int IntKind.u16 (0 : Int)), (11, LV.int IntKind.i64 (0 : Int)), (10, LV.raw (Value.pointer (some { block := bf, off := 0 }))), (9, LV.bool true), (8, LV.cst (Value.bool false)), (0, LV.int IntKind.i64 room), (1, LV.int IntKind.u32 source), (2, LV.raw (Value.slice p1 0 c1)), (3, LV.raw (Value.slice p2 n2 c2))], H := [], nx := 0, orc := [] })) (by kernel_rfl) ?_
  refine ⟨fun h => by simp at h, fun _ => ?_⟩
  refine fun _ => Go.loop (ι := Unit) (fun _ => (fwdA bf bl rm [newA true, newA true] * F, [],
    [(13, .int .i64 0), (10, .raw (.pointer (some ⟨bf, 0, none⟩))), (9, .bool true), (2, .raw (.slice p1 0 c1))], []))
    (fun _ => 0) rfl () (fun w hs => ⟨FrEq.of_all ⟨rfl, rfl, rfl, rfl, trivial⟩, rfl, hs⟩) ?_
  intro _ _
  dsimp only
  refine Go.runS mixed 300 [] [14] rfl ?_
  refine Ok.eq (r' := Res.ite false (Res.ite true (Res.stop { stk := [It.reg [1, 1, 1, 1, 1, 1, 1, 0, 1, 0, 0, 1, 0, 0, 0, 1, 0] [1, 2, 3], It.code [1, 1, 1, 1, 1, 1, 1, 0, 1, 0, 0, 1, 0, 0, 1], It.blk 1, It.code [1, 1, 1, 1, 1, 1, 1, 0, 1, 0, 0, 1, 1], It.lp [1, 1, 1, 1, 1, 1, 1, 0, 1, 0, 0], It.blk 0, It.code [1, 1, 1, 1, 1, 1, 1, 1]], fr := [(47, LV.raw (Value.slice p1 0 c1)), (13, LV.int IntKind.i64 (0 : Int)), (10, LV.raw (Value.pointer (some { block := bf, off := 0 }))), (9, LV.bool true), (2, LV.raw (Value.slice p1 0 c1))], H := [], nx := 0, orc := [] }) (Res.stop { stk := [It.code [1, 1, 1, 1, 1, 1, 1, 0, 1, 0, 0, 1, 0, 0, 1, 0], It.code [1, 1, 1, 1, 1, 1, 1, 0, 1, 0, 0, 1, 0, 0, 1, 1], It.blk 1, It.code [1, 1, 1, 1, 1, 1, 1, 0, 1, 0, 0, 1, 1], It.lp [1, 1, 1, 1, 1, 1, 1, 0, 1, 0, 0], It.blk 0, It.code [1, 1, 1, 1, 1, 1, 1, 1]], fr := [(13, LV.int IntKind.i64 (0 : Int)), (10, LV.raw (Value.pointer (some { block := bf, off := 0 }))), (9, LV.bool true), (2, LV.raw (Value.slice p1 0 c1))], H := [], nx := 0, orc := [] })) (Res.ite true (Res.stop { stk := [It.reg [1, 1, 1, 1, 1, 1, 1, 1, 0] [3, 4, 5, 6, 7, 8, 9, 10, 11, 12, 13, 14, 15, 16], It.code [1, 1, 1, 1, 1, 1, 1, 1, 1]], fr := [(152, LV.cst (Value.bool true)), (153, LV.raw (Value.pointer (some { block := bf, off := 0 }))), (151, LV.bool true), (13, LV.int IntKind.i64 (0 : Int)), (10, LV.raw (Value.pointer (some { block := bf, off := 0 }))), (9, LV.bool true), (2, LV.raw (Value.slice p1 0 c1))], H := [], nx := 0, orc := [] }) (Res.leave Leave.ret { stk := [It.code [1, 1, 1, 1, 1, 1, 1, 1, 1]], fr := [(8, LV.cst (Value.bool false)), (13, LV.int IntKind.i64 (0 : Int)), (10, LV.raw (Value.pointer (some { block := bf, off := 0 }))), (9, LV.bool true), (2, LV.raw (Value.slice p1 0 c1))], H := [], nx := 0, orc := [] }))) (by kernel_rfl) ?_
  refine ⟨fun h => by simp at h, fun _ => ?_⟩
  refine ⟨fun _ => ?_, fun h => by simp at h⟩
  refine fun _ => Go.callV (.int .i64 0) [] (fwdA bf bl rm [newA true, newA true] * F) rfl rfl rfl rfl rfl rfl rfl (fun w hs => (waitingA_spec (w0 := w0) (k := 1) (a := newA true) rfl hs.right).mono fun e w' he => ⟨by rw [he.1]; rfl, he.2.eq (one_mul _).symm⟩) ?_
  refine Go.run mixed 300 [] rfl ?_
  refine Ok.eq (r' := Res.ite true (Res.stop { stk := [It.reg [1, 1, 1, 1, 1, 1, 1, 1, 0] [8, 9, 10, 11, 12, 13, 14, 15, 16], It.code [1, 1, 1, 1, 1, 1, 1, 1, 1]], fr := [(157, LV.cst (Value.bool true)), (158, LV.raw (Value.pointer (some { block := bf, off := 0 }))), (156, LV.bool true), (155, LV.bool true), (154, LV.int IntKind.i64 (0 : Int)), (152, LV.cst (Value.bool true)), (153, LV.raw (Value.pointer (some { block := bf, off := 0 }))), (151, LV.bool true), (13, LV.int IntKind.i64 (0 : Int)), (10, LV.raw (Value.pointer (some { block := bf, off := 0 }))), (9, LV.bool true), (2, LV.raw (Value.slice p1 0 c1))], H := [], nx := 0, orc := [] }) (Res.leave Leave.ret { stk := [It.code [1, 1, 1, 1, 1, 1, 1, 1, 1]], fr := [(8, LV.cst (Value.bool false)), (13, LV.int IntKind.i64 (0 : Int)), (10, LV.raw (Value.pointer (some { block := bf, off := 0 }))), (9, LV.bool true), (2, LV.raw (Value.slice p1 0 c1))], H := [], nx := 0, orc := [] })) (by kernel_rfl) ?_
  refine ⟨fun _ => ?_, fun h => by simp at h⟩
  refine fun _ => Go.callV (.int .i64 0) [] (fwdA bf bl rm [newA true, newA true] * F) rfl rfl rfl rfl rfl rfl rfl (fun w hs => (waitingA_spec (w0 := w0) (k := 0) (a := newA true) rfl hs.right).mono fun e w' he => ⟨by rw [he.1]; rfl, he.2.eq (one_mul _).symm⟩) ?_
  refine Go.run mixed 300 [] rfl ?_
  refine Ok.eq (r' := Res.ite true (Res.stop { stk := [It.reg [1, 1, 1, 1, 1, 1, 1, 1, 0] [13, 14, 15, 16], It.code [1, 1, 1, 1, 1, 1, 1, 1, 1]], fr := [(162, LV.cst (Value.bool true)), (163, LV.raw (Value.pointer (some { block := bf, off := 0 }))), (161, LV.bool true), (160, LV.bool true), (159, LV.int IntKind.i64 (0 : Int)), (157, LV.cst (Value.bool true)), (158, LV.raw (Value.pointer (some { block := bf, off := 0 }))), (156, LV.bool true), (155, LV.bool true), (154, LV.int IntKind.i64 (0 : Int)), (152, LV.cst (Value.bool true)), (153, LV.raw (Value.pointer (some { block := bf, off := 0 }))), (151, LV.bool true), (13, LV.int IntKind.i64 (0 : Int)), (10, LV.raw (Value.pointer (some { block := bf, off := 0 }))), (9, LV.bool true), (2, LV.raw (Value.slice p1 0 c1))], H := [], nx := 0, orc := [] }) (Res.leave Leave.ret { stk := [It.code [1, 1, 1, 1, 1, 1, 1, 1, 1]], fr := [(8, LV.cst (Value.bool false)), (13, LV.int IntKind.i64 (0 : Int)), (10, LV.raw (Value.pointer (some { block := bf, off := 0 }))), (9, LV.bool true), (2, LV.raw (Value.slice p1 0 c1))], H := [], nx := 0, orc := [] })) (by kernel_rfl) ?_
  refine ⟨fun _ => ?_, fun h => by simp at h⟩
  refine fun _ => Go.callV (.int .i64 0) [] (fwdA bf bl rm [newA true, newA true] * F) rfl rfl rfl rfl rfl rfl rfl (fun w hs => (lostA_spec (w0 := w0) (k := 0) (a := newA true) rfl hs.right).mono fun e w' he => ⟨by rw [he.1]; rfl, he.2.eq (one_mul _).symm⟩) ?_
  refine Go.run mixed 300 [] rfl ?_
  refine Ok.eq (r' := Res.leave Leave.ret { stk := [It.code [1, 1, 1, 1, 1, 1, 1, 1, 1]], fr := [(8, LV.bool true), (13, LV.int IntKind.i64 (0 : Int)), (10, LV.raw (Value.pointer (some { block := bf, off := 0 }))), (9, LV.bool true), (2, LV.raw (Value.slice p1 0 c1))], H := [], nx := 0, orc := [] }) (by kernel_rfl) ?_
  exact leave_ok (fun _ => nofun) rfl fun w hs => ⟨rfl, hs.right.right⟩

/-- What the walk is told of a slice of integers that came in. -/
def IsRow (k : IntKind) (w : World) (a : Option Addr) (len cap : Nat) (zs : List Int) : Prop :=
  (a = none ∧ len = 0 ∧ cap = 0 ∧ zs = []) ∨
  ∃ x, a = some x ∧ len ≤ cap ∧ cap ≤ maxLen ∧ zs.length = cap ∧ (∀ i, i < zs.length → w.cell? (x.add i) = some (.int k (zs.getD i 0))) ∧ ∀ n ∈ zs, (Lit.int k n).wf = true

theorem IsRow.open {k : IntKind} {w : World} {a : Option Addr} {n c : Nat} {zs : List Int} (h : IsRow k w a n c zs) : n = 0 ∨ ∃ b o, a = some ⟨b, o, none⟩ ∧ b < w.heap.size ∧ ∀ i, i < n → w.cell? ⟨b, o + i, none⟩ = some (.int k (zs.getD i 0)) := by
  rcases h with ⟨_, h, _⟩ | ⟨⟨b, o, spot⟩, rfl, hl, _, hz, hc, _⟩
  · exact .inl h
  · by_cases h0 : n = 0
    · exact .inl h0
    · have c0 := hc 0 (by omega)
      have hspot : spot = none := by simpa [Addr.add] using World.cell?_spot c0
      subst hspot
      refine .inr ⟨b, o, rfl, ?_, fun i hi => ?_⟩
      · have : w.cell? ⟨b, o, none⟩ = some (.int k (zs.getD 0 0)) := by simpa [Addr.add] using c0
        unfold World.cell? at this
        cases hb : w.heap[b]? with
        | none => rw [hb] at this; simp at this
        | some o' => exact (Array.getElem?_eq_some_iff.1 hb).1
      · have := hc i (by omega)
        rwa [Addr.add_lit] at this

theorem parts_spec (room source : Int) (a1 : Option Addr) (n1 c1 : Nat) (a2 : Option Addr) (n2 c2 : Nat) (seqs pulls : List Int) (w : World) (h1 : IsRow .u16 w a1 n1 c1 seqs) (h2 : IsRow .i64 w a2 n2 c2 pulls) :
    Calls Try.prog 4 #[.int .i64 room, .int .u32 source, .slice a1 n1 c1, .slice a2 n2 c2] w fun e w' => e = .returned (.bool true) ∧ Sat w 1 w' := by
  rcases h1.open with rfl | ⟨b1, o1, rfl, hb1, hc1⟩
  · exact parts_walk0 room source a1 c1 a2 n2 c2 (Sat.refl w)
  · rcases h2.open with rfl | ⟨b2, o2, rfl, hb2, hc2⟩
    · exact parts_walkN room source b1 o1 n1 c1 b1 a2 c2 seqs hb1 hb1 hc1 (Sat.refl w)
    · exact parts_walk room source b1 o1 n1 c1 b2 o2 n2 c2 seqs pulls hb1 hb2 hc1 hc2 (Sat.refl w)

end Go.Proofs.Ytaobahddincaiaa
