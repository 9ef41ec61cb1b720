/- Layer 20: the document's example, walked. -/
import Derived.Test.YtaobahddincaiaaA6
namespace Go.Proofs.Ytaobahddincaiaa
open Go Go.E Go.Proofs

def aw0 : LisA := newA true
def aw1 : LisA := ⟨true, (List.replicate 16 ⟨false, 0, 0, 0⟩).set 0 ⟨true, 9, 700, 0⟩, [⟨false, 0, 0, 0, 1, [.int .u8 1]⟩], 0⟩
def aw2 : LisA := ⟨true, (List.replicate 16 ⟨false, 0, 0, 0⟩).set 0 ⟨true, 9, 703, 3⟩, [⟨false, 0, 0, 0, 1, [.int .u8 1]⟩, ⟨false, 0, 3, 0, 1, [.int .u8 2]⟩], 0⟩
def aw3 : LisA := ⟨true, (List.replicate 16 ⟨false, 0, 0, 0⟩).set 0 ⟨true, 9, 703, 3⟩, [⟨false, 0, 3, 0, 1, [.int .u8 2]⟩], 0⟩
theorem aw_hear1 : hearTo 0 ⟨false, 0, 700, 0, 9, [.int .u8 1]⟩ 4 [aw0, aw0] 2 = (1, [aw0, aw1]) := by kernel_rfl
theorem aw_hear2 : hearTo 0 ⟨false, 0, 703, 0, 9, [.int .u8 2]⟩ 4 [aw0, aw1] 2 = (1, [aw0, aw2]) := by kernel_rfl

set_option maxHeartbeats 1000000 in
set_option maxRecDepth 100000 in
theorem awake_spec {w0 : World} {F : HP} {w : World} (hs : Sat w0 F w) : Calls Try.prog 5 #[] w fun e w' => e = .returned (.bool true) ∧ Sat w0 F w' := by
  refine Calls.enter (cfg := cfg5 w0) (β := []) (H := []) (F := F) (l := []) Try.func5 rfl rfl (Nat.le_of_ble_eq_true rfl) rfl (hs.eq (one_mul F).symm) ?_
  refine Go.run mixed 300 [] rfl ?_
  refine Ok.eq (r' := Res.stop { stk := [It.reg [1, 0] [0, 1], It.code [1, 1]], fr := [(0, LV.cst (Value.bool false))], H := [], nx := 0, orc := [] }) (by kernel_rfl) ?_
  refine fun _ => Go.call rfl rfl rfl rfl rfl fun w hs => (newA_spec (w0 := w0) 2 (.inl rfl) 4 hs.right).mono fun e w' he => ?_
  obtain ⟨bf, bl, he1, he2⟩ := he
  refine ⟨_, he1, After.keep (γ := []) (H' := []) (F' := fwdA bf bl 4 [newA false, newA false] * F) (lv := .raw (.pointer (some ⟨bf, 0, none⟩))) rfl rfl rfl rfl (he2.eq (one_mul _).symm) ?_⟩
  clear he1 he2
  refine Go.run mixed 300 [] rfl ?_
  refine Ok.eq (r' := Res.stop { stk := [It.reg [1, 1, 0] [1, 2], It.code [1, 1, 1]], fr := [(13, LV.raw (Value.pointer (some { block := bf, off := 0 }))), (1, LV.raw (Value.pointer (some { block := bf, off := 0 }))), (0, LV.cst (Value.bool false))], H := [], nx := 0, orc := [] }) (by kernel_rfl) ?_
  refine fun _ => Go.callV (.int .i64 0) [] (fwdA bf bl 4 [newA true, newA false] * F) rfl rfl rfl rfl rfl rfl rfl (fun w hs => (listenA_spec (w0 := w0) (k := 0) (a := newA false) rfl rfl hs.right).mono fun e w' he => ⟨he.1, he.2.eq (one_mul _).symm⟩) ?_
  refine Go.run mixed 300 [] rfl ?_
  refine Ok.eq (r' := Res.stop { stk := [It.reg [1, 1, 1, 0] [1, 2], It.code [1, 1, 1, 1]], fr := [(15, LV.raw (Value.pointer (some { block := bf, off := 0 }))), (2, LV.int IntKind.i64 (0 : Int)), (1, LV.raw (Value.pointer (some { block := bf, off := 0 }))), (0, LV.cst (Value.bool false))], H := [], nx := 0, orc := [] }) (by kernel_rfl) ?_
  refine fun _ => Go.callV (.int .i64 0) [] (fwdA bf bl 4 [aw0, aw0] * F) rfl rfl rfl rfl rfl rfl rfl (fun w hs => (listenA_spec (w0 := w0) (k := 1) (a := newA false) rfl rfl hs.right).mono fun e w' he => ⟨he.1, he.2.eq (one_mul _).symm⟩) ?_
  refine Go.run mixed 300 [] rfl ?_
  refine Ok.eq (r' := Res.new (Res.stop { stk := [It.reg [1, 1, 1, 1, 0] [3, 4, 5, 6, 7, 8], It.code [1, 1, 1, 1, 1]], fr := [(20, LV.agg [LV.cst (Value.bool false), LV.int IntKind.u8 (0 : Int), LV.int IntKind.u16 (700 : Int), LV.int IntKind.u32 (0 : Int), LV.int IntKind.u32 (9 : Int), LV.sl 0 0 1 1]), (19, LV.sl 0 0 1 1), (18, LV.raw (Value.pointer (some { block := bf, off := 0 }))), (3, LV.int IntKind.i64 (0 : Int)), (2, LV.int IntKind.i64 (0 : Int)), (1, LV.raw (Value.pointer (some { block := bf, off := 0 }))), (0, LV.cst (Value.bool false))], H := [(0, LO.lay [LV.int IntKind.u8 (1 : Int)] 5)], nx := 1, orc := [] })) (by kernel_rfl) ?_
  have hone : ∀ (x : Int) (b : Nat) (F : HP) {w : World}, Sat w0 (pt b (.cells #[.int .u8 x] 5) * F) w → Sat w0 (own 5 1 (some ⟨b, 0, none⟩) 1 1 [.int .u8 x] * F) w := fun x b F w h => by
    refine own_strip ⟨b, [], []⟩ ⟨rfl, rfl, Nat.le_refl _, rfl, by simp [Value.one]⟩ (h.eq ?_)
    simp
  refine fun b1 _ => Go.callV (.tup [.int .i64 1, .int .i64 0]) [] (fwdA bf bl 4 [aw0, aw1] * F) rfl rfl rfl rfl rfl rfl rfl (fun w hs => ?_) ?_
  · refine (hearA_spec (w0 := w0) (F := F) (L := [aw0, aw0]) (bf := bf) (bl := bl) (room := 4) (party := 0) (a := aw0) rfl rfl ⟨false, 0, 700, 0, 9, some ⟨b1, 0, none⟩, 1, 1, [.int .u8 1]⟩ rfl (by decide) (by decide) (by simp [aw0, newA]) ?_).mono fun e w' he => ⟨?_, ?_⟩
    · refine (hone 1 b1 (fwdA bf bl 4 [aw0, aw0] * F) (hs.eq ?_)).eq (star_left _ _ _)
      simp [satH, atom, denO, bk, mul_one, denL, den, star_assoc]
    · rw [he.1, show (Pkt.abs ⟨false, 0, 700, 0, 9, some ⟨b1, 0, none⟩, 1, 1, [.int .u8 1]⟩) = (⟨false, 0, 700, 0, 9, [.int .u8 1]⟩ : PktA) from rfl, show [aw0, aw0].length = 2 from rfl, aw_hear1]; rfl
    · have := he.2
      rw [show (Pkt.abs ⟨false, 0, 700, 0, 9, some ⟨b1, 0, none⟩, 1, 1, [.int .u8 1]⟩) = (⟨false, 0, 700, 0, 9, [.int .u8 1]⟩ : PktA) from rfl, show [aw0, aw0].length = 2 from rfl, aw_hear1, star_left] at this
      exact this.right.eq (one_mul _).symm
  refine Go.run mixed 300 [] rfl ?_
  refine Ok.eq (r' := Res.new (Res.stop { stk := [It.reg [1, 1, 1, 1, 1, 0] [3, 4, 5, 6, 7, 8], It.code [1, 1, 1, 1, 1, 1]], fr := [(27, LV.agg [LV.cst (Value.bool false), LV.int IntKind.u8 (0 : Int), LV.int IntKind.u16 (703 : Int), LV.int IntKind.u32 (0 : Int), LV.int IntKind.u32 (9 : Int), LV.sl 1 0 1 1]), (26, LV.sl 1 0 1 1), (25, LV.raw (Value.pointer (some { block := bf, off := 0 }))), (4, LV.int IntKind.i64 (1 : Int)), (3, LV.int IntKind.i64 (0 : Int)), (2, LV.int IntKind.i64 (0 : Int)), (1, LV.raw (Value.pointer (some { block := bf, off := 0 }))), (0, LV.cst (Value.bool false))], H := [(1, LO.lay [LV.int IntKind.u8 (2 : Int)] 5)], nx := 2, orc := [] })) (by kernel_rfl) ?_
  refine fun b2 _ => Go.callV (.tup [.int .i64 1, .int .i64 0]) [] (fwdA bf bl 4 [aw0, aw2] * F) rfl rfl rfl rfl rfl rfl rfl (fun w hs => ?_) ?_
  · refine (hearA_spec (w0 := w0) (F := F) (L := [aw0, aw1]) (bf := bf) (bl := bl) (room := 4) (party := 0) (a := aw0) rfl rfl ⟨false, 0, 703, 0, 9, some ⟨b2, 0, none⟩, 1, 1, [.int .u8 2]⟩ rfl (by decide) (by decide) (by simp [aw0, aw1, newA]) ?_).mono fun e w' he => ⟨?_, ?_⟩
    · refine (hone 2 b2 (fwdA bf bl 4 [aw0, aw1] * F) (hs.eq ?_)).eq (star_left _ _ _)
      simp [satH, atom, denO, bk, mul_one, denL, den, star_assoc]
    · rw [he.1, show (Pkt.abs ⟨false, 0, 703, 0, 9, some ⟨b2, 0, none⟩, 1, 1, [.int .u8 2]⟩) = (⟨false, 0, 703, 0, 9, [.int .u8 2]⟩ : PktA) from rfl, show [aw0, aw1].length = 2 from rfl, aw_hear2]; rfl
    · have := he.2
      rw [show (Pkt.abs ⟨false, 0, 703, 0, 9, some ⟨b2, 0, none⟩, 1, 1, [.int .u8 2]⟩) = (⟨false, 0, 703, 0, 9, [.int .u8 2]⟩ : PktA) from rfl, show [aw0, aw1].length = 2 from rfl, aw_hear2, star_left] at this
      exact this.right.eq (one_mul _).symm
  refine Go.run mixed 300 [] rfl ?_
  refine Ok.eq (r' := Res.stop { stk := [It.reg [1, 1, 1, 1, 1, 1, 0] [1, 2, 3, 4, 5, 6, 7], It.code [1, 1, 1, 1, 1, 1, 1]], fr := [(32, LV.raw (Value.pointer (some { block := bf, off := 0 }))), (6, LV.int IntKind.i64 (1 : Int)), (4, LV.int IntKind.i64 (1 : Int)), (3, LV.int IntKind.i64 (0 : Int)), (2, LV.int IntKind.i64 (0 : Int)), (1, LV.raw (Value.pointer (some { block := bf, off := 0 }))), (0, LV.cst (Value.bool false))], H := [], nx := 2, orc := [] }) (by kernel_rfl) ?_
  refine fun _ => Go.call rfl rfl rfl rfl rfl fun w hs => (pullA_spec (w0 := w0) (k := 1) (a := aw2) (pa := ⟨false, 0, 0, 0, 1, [.int .u8 1]⟩) (rest := [⟨false, 0, 3, 0, 1, [.int .u8 2]⟩]) rfl rfl (by decide) hs.right).mono fun e w' he => ?_
  obtain ⟨p1, hp1, he1, he2⟩ := he
  obtain ⟨m1, k1, s1, t1, r1, d1, n1, c1, y1⟩ := p1
  simp only [Pkt.abs, PktA.mk.injEq] at hp1
  obtain ⟨rfl, rfl, rfl, rfl, rfl, rfl⟩ := hp1
  refine ⟨_, he1, After.keep (γ := []) (H' := []) (F' := fwdA bf bl 4 [aw0, aw3] * F) (lv := .tup [.agg [.bool false, .int .u8 0, .int .u16 0, .int .u32 0, .int .u32 1, .raw (.slice d1 n1 c1)], .bool true]) rfl rfl rfl rfl ?_ ?_⟩
  · rw [star_left] at he2
    exact he2.right.eq (one_mul _).symm
  clear he1 he2
  refine Go.run mixed 300 [] rfl ?_
  refine Ok.eq (r' := Res.new (Res.need [fun x ↦ Value.one (Value.slice d1 n1 c1) = true] (Res.stop { stk := [It.reg [1, 1, 1, 1, 1, 1, 1, 0] [1, 2, 3, 4, 5, 6, 7], It.code [1, 1, 1, 1, 1, 1, 1, 1]], fr := [(37, LV.raw (Value.pointer (some { block := bf, off := 0 }))), (9, LV.bool true), (8, LV.ptr 2 0), (6, LV.int IntKind.i64 (1 : Int)), (4, LV.int IntKind.i64 (1 : Int)), (3, LV.int IntKind.i64 (0 : Int)), (2, LV.int IntKind.i64 (0 : Int)), (1, LV.raw (Value.pointer (some { block := bf, off := 0 }))), (0, LV.cst (Value.bool false))], H := [(2, LO.lay [LV.bool false, LV.int IntKind.u8 (0 : Int), LV.int IntKind.u16 (0 : Int), LV.int IntKind.u32 (0 : Int), LV.int IntKind.u32 (1 : Int), LV.raw (Value.slice d1 n1 c1)] 33)], nx := 3, orc := [] }))) (by kernel_rfl) ?_
  refine fun b3 => ⟨⟨rfl, trivial⟩, fun _ => Go.call rfl rfl rfl rfl rfl fun w hs => ?_⟩
  refine (pullA_spec (w0 := w0) (F := pt b3 (.cells #[.bool false, .int .u8 0, .int .u16 0, .int .u32 0, .int .u32 1, .slice d1 n1 c1] 33) * F) (L := [aw0, aw3]) (bf := bf) (bl := bl) (room := 4) (k := 1) (a := aw3) (pa := ⟨false, 0, 3, 0, 1, [.int .u8 2]⟩) (rest := []) rfl rfl (by decide) (hs.eq ?_)).mono fun e w' he => ?_
  · simp [satH, atom, denO, bk, mul_one, denL, den, star_assoc]; ac_rfl
  obtain ⟨p2, hp2, he1, he2⟩ := he
  obtain ⟨m2, k2, s2, t2, r2, d2, n2, c2, y2⟩ := p2
  simp only [Pkt.abs, PktA.mk.injEq] at hp2
  obtain ⟨rfl, rfl, rfl, rfl, rfl, rfl⟩ := hp2
  refine ⟨_, he1, After.keep (γ := []) (H' := [(2, .lay [.bool false, .int .u8 0, .int .u16 0, .int .u32 0, .int .u32 1, .raw (.slice d1 n1 c1)] 33)]) (F' := own 5 1 d2 n2 c2 [.int .u8 2] * F) (lv := .tup [.agg [.bool false, .int .u8 0, .int .u16 3, .int .u32 0, .int .u32 1, .raw (.slice d2 n2 c2)], .bool true]) rfl rfl rfl rfl ?_ ?_⟩
  · refine he2.right.eq ?_
    simp [satH, atom, denO, bk, mul_one, denL, den, Pkt.hp, star_assoc]; ac_rfl
  clear he1 he2
  refine Go.run mixed 300 [] rfl ?_
  refine Ok.eq (r' := Res.new (Res.need [fun x ↦ Value.one (Value.slice d2 n2 c2) = true] (Res.ite true (Res.new (Res.stop { stk := [It.reg [1, 1, 1, 1, 1, 1, 1, 1, 0] [39, 40, 41, 42, 43, 44, 45, 46, 47, 48, 49, 50], It.code [1, 1, 1, 1, 1, 1, 1, 1, 1]], fr := [(79, LV.sl 4 0 1 1), (76, LV.cst (Value.bool true)), (78, LV.raw (Value.slice d2 n2 c2)), (77, LV.ptr 3 5), (75, LV.bool true), (71, LV.bool true), (70, LV.bool true), (66, LV.bool true), (65, LV.bool true), (61, LV.bool true), (60, LV.bool true), (58, LV.bool true), (57, LV.bool true), (55, LV.bool true), (54, LV.bool true), (51, LV.bool true), (50, LV.bool true), (47, LV.bool true), (46, LV.bool true), (43, LV.bool true), (42, LV.bool true), (41, LV.int IntKind.i64 (0 : Int)), (11, LV.bool true), (10, LV.ptr 3 0), (9, LV.bool true), (8, LV.ptr 2 0), (6, LV.int IntKind.i64 (1 : Int)), (4, LV.int IntKind.i64 (1 : Int)), (3, LV.int IntKind.i64 (0 : Int)), (2, LV.int IntKind.i64 (0 : Int)), (1, LV.raw (Value.pointer (some { block := bf, off := 0 }))), (0, LV.cst (Value.bool false))], H := [(4, LO.lay [LV.int IntKind.u8 (2 : Int)] 5), (3, LO.lay [LV.bool false, LV.int IntKind.u8 (0 : Int), LV.int IntKind.u16 (3 : Int), LV.int IntKind.u32 (0 : Int), LV.int IntKind.u32 (1 : Int), LV.raw (Value.slice d2 n2 c2)] 33), (2, LO.lay [LV.bool false, LV.int IntKind.u8 (0 : Int), LV.int IntKind.u16 (0 : Int), LV.int IntKind.u32 (0 : Int), LV.int IntKind.u32 (1 : Int), LV.raw (Value.slice d1 n1 c1)] 33)], nx := 5, orc := [] })) (Res.leave Leave.ret { stk := [It.code [1, 1, 1, 1, 1, 1, 1, 1, 1]], fr := [(0, LV.cst (Value.bool false)), (11, LV.bool true), (10, LV.ptr 3 0), (9, LV.bool true), (8, LV.ptr 2 0), (6, LV.int IntKind.i64 (1 : Int)), (4, LV.int IntKind.i64 (1 : Int)), (3, LV.int IntKind.i64 (0 : Int)), (2, LV.int IntKind.i64 (0 : Int)), (1, LV.raw (Value.pointer (some { block := bf, off := 0 })))], H := [(3, LO.lay [LV.bool false, LV.int IntKind.u8 (0 : Int), LV.int IntKind.u16 (3 : Int), LV.int IntKind.u32 (0 : Int), LV.int IntKind.u32 (1 : Int), LV.raw (Value.slice d2 n2 c2)] 33), (2, LO.lay [LV.bool false, LV.int IntKind.u8 (0 : Int), LV.int IntKind.u16 (0 : Int), LV.int IntKind.u32 (0 : Int), LV.int IntKind.u32 (1 : Int), LV.raw (Value.slice d1 n1 c1)] 33)], nx := 4, orc := [] })))) (by kernel_rfl) ?_
  refine fun b4 => ⟨⟨rfl, trivial⟩, fun _ => ?_, fun h => by simp at h⟩
  have hstr : ∀ (bs : Option Addr) (n c : Nat) (F : HP) {w : World}, Sat w0 (own 5 1 bs n c [.int .u8 2] * F) w → (convert 31 9 (.slice bs n c)).run Try.prog w = .ok (.string (strOfNums [2])) w := fun bs n c F w h => own_str (xs := [2]) rfl rfl rfl h
  refine fun b5 _ => Go.callV (.bool true) [] F rfl rfl rfl rfl rfl rfl rfl (fun w hs => ?_) ?_
  · refine (same_spec d2 (some ⟨b5, 0, none⟩) n2 c2 1 1 (strOfNums [2]) (strOfNums [2]) (w0 := w0) (F := own 5 1 d2 n2 c2 [.int .u8 2] * (own 5 1 (some ⟨b5, 0, none⟩) 1 1 [.int .u8 2] * F)) ?_ (fun w h => hstr _ _ _ _ h) (fun w h => hstr _ _ _ _ (h.eq (star_left _ _ _)))).mono fun e w' he => ⟨?_, he.2.right.right.eq (one_mul F).symm⟩
    · refine Sat.right (p := pt b4 (.cells #[.bool false, .int .u8 0, .int .u16 3, .int .u32 0, .int .u32 1, .slice d2 n2 c2] 33)) (Sat.right (p := pt b3 (.cells #[.bool false, .int .u8 0, .int .u16 0, .int .u32 0, .int .u32 1, .slice d1 n1 c1] 33)) ?_)
      refine (hone 2 b5 (own 5 1 d2 n2 c2 [.int .u8 2] * (pt b4 (.cells #[.bool false, .int .u8 0, .int .u16 3, .int .u32 0, .int .u32 1, .slice d2 n2 c2] 33) * (pt b3 (.cells #[.bool false, .int .u8 0, .int .u16 0, .int .u32 0, .int .u32 1, .slice d1 n1 c1] 33) * F))) (hs.eq ?_)).eq ?_
      · simp [satH, atom, denO, bk, mul_one, denL, den, star_assoc]; ac_rfl
      · ac_rfl
    · rw [he.1, beq_self_eq_true]; rfl
  refine Go.run mixed 300 [] rfl ?_
  refine Ok.eq (r' := Res.ite true (Res.new (Res.stop { stk := [It.reg [1, 1, 1, 1, 1, 1, 1, 1, 0] [43, 44, 45, 46, 47, 48, 49, 50], It.code [1, 1, 1, 1, 1, 1, 1, 1, 1]], fr := [(83, LV.sl 5 0 1 1), (82, LV.cst (Value.bool true)), (81, LV.bool true), (80, LV.bool true), (79, LV.sl 4 0 1 1), (76, LV.cst (Value.bool true)), (78, LV.raw (Value.slice d2 n2 c2)), (77, LV.ptr 3 5), (75, LV.bool true), (71, LV.bool true), (70, LV.bool true), (66, LV.bool true), (65, LV.bool true), (61, LV.bool true), (60, LV.bool true), (58, LV.bool true), (57, LV.bool true), (55, LV.bool true), (54, LV.bool true), (51, LV.bool true), (50, LV.bool true), (47, LV.bool true), (46, LV.bool true), (43, LV.bool true), (42, LV.bool true), (41, LV.int IntKind.i64 (0 : Int)), (11, LV.bool true), (10, LV.ptr 3 0), (9, LV.bool true), (8, LV.ptr 2 0), (6, LV.int IntKind.i64 (1 : Int)), (4, LV.int IntKind.i64 (1 : Int)), (3, LV.int IntKind.i64 (0 : Int)), (2, LV.int IntKind.i64 (0 : Int)), (1, LV.raw (Value.pointer (some { block := bf, off := 0 }))), (0, LV.cst (Value.bool false))], H := [(5, LO.lay [LV.int IntKind.u8 (128 : Int)] 5)], nx := 6, orc := [] })) (Res.leave Leave.ret { stk := [It.code [1, 1, 1, 1, 1, 1, 1, 1, 1]], fr := [(0, LV.cst (Value.bool false)), (11, LV.bool true), (10, LV.ptr 3 0), (9, LV.bool true), (8, LV.ptr 2 0), (6, LV.int IntKind.i64 (1 : Int)), (4, LV.int IntKind.i64 (1 : Int)), (3, LV.int IntKind.i64 (0 : Int)), (2, LV.int IntKind.i64 (0 : Int)), (1, LV.raw (Value.pointer (some { block := bf, off := 0 })))], H := [], nx := 5, orc := [] })) (by kernel_rfl) ?_
  refine ⟨fun _ => ?_, fun h => by simp at h⟩
  refine fun b6 _ => Go.callV (.bool true) [] F rfl rfl rfl rfl rfl rfl rfl (fun w hs => (is_spec 128 b6 (w0 := w0) (F := F) (hs.eq (by simp [satH, atom, denO, bk, mul_one, denL, den]))).mono fun e w' he => ⟨by rw [he.1]; rfl, he.2.right.eq (one_mul F).symm⟩) ?_
  refine Go.run mixed 300 [] rfl ?_
  refine Ok.eq (r' := Res.ite true (Res.new (Res.stop { stk := [It.reg [1, 1, 1, 1, 1, 1, 1, 1, 0] [47, 48, 49, 50], It.code [1, 1, 1, 1, 1, 1, 1, 1, 1]], fr := [(87, LV.sl 6 0 1 1), (86, LV.cst (Value.bool true)), (85, LV.bool true), (84, LV.bool true), (83, LV.sl 5 0 1 1), (82, LV.cst (Value.bool true)), (81, LV.bool true), (80, LV.bool true), (79, LV.sl 4 0 1 1), (76, LV.cst (Value.bool true)), (78, LV.raw (Value.slice d2 n2 c2)), (77, LV.ptr 3 5), (75, LV.bool true), (71, LV.bool true), (70, LV.bool true), (66, LV.bool true), (65, LV.bool true), (61, LV.bool true), (60, LV.bool true), (58, LV.bool true), (57, LV.bool true), (55, LV.bool true), (54, LV.bool true), (51, LV.bool true), (50, LV.bool true), (47, LV.bool true), (46, LV.bool true), (43, LV.bool true), (42, LV.bool true), (41, LV.int IntKind.i64 (0 : Int)), (11, LV.bool true), (10, LV.ptr 3 0), (9, LV.bool true), (8, LV.ptr 2 0), (6, LV.int IntKind.i64 (1 : Int)), (4, LV.int IntKind.i64 (1 : Int)), (3, LV.int IntKind.i64 (0 : Int)), (2, LV.int IntKind.i64 (0 : Int)), (1, LV.raw (Value.pointer (some { block := bf, off := 0 }))), (0, LV.cst (Value.bool false))], H := [(6, LO.lay [LV.int IntKind.u8 (0 : Int)] 5)], nx := 7, orc := [] })) (Res.leave Leave.ret { stk := [It.code [1, 1, 1, 1, 1, 1, 1, 1, 1]], fr := [(0, LV.cst (Value.bool false)), (11, LV.bool true), (10, LV.ptr 3 0), (9, LV.bool true), (8, LV.ptr 2 0), (6, LV.int IntKind.i64 (1 : Int)), (4, LV.int IntKind.i64 (1 : Int)), (3, LV.int IntKind.i64 (0 : Int)), (2, LV.int IntKind.i64 (0 : Int)), (1, LV.raw (Value.pointer (some { block := bf, off := 0 })))], H := [], nx := 6, orc := [] })) (by kernel_rfl) ?_
  refine ⟨fun _ => ?_, fun h => by simp at h⟩
  refine fun b7 _ => Go.callV (.bool false) [] F rfl rfl rfl rfl rfl rfl rfl (fun w hs => (is_spec 0 b7 (w0 := w0) (F := F) (hs.eq (by simp [satH, atom, denO, bk, mul_one, denL, den]))).mono fun e w' he => ⟨by rw [he.1]; rfl, he.2.right.eq (one_mul F).symm⟩) ?_
  refine Go.run mixed 300 [] rfl ?_
  refine Ok.eq (r' := Res.leave Leave.ret { stk := [It.code [1, 1, 1, 1, 1, 1, 1, 1, 1]], fr := [(0, LV.bool true), (11, LV.bool true), (10, LV.ptr 3 0), (9, LV.bool true), (8, LV.ptr 2 0), (6, LV.int IntKind.i64 (1 : Int)), (4, LV.int IntKind.i64 (1 : Int)), (3, LV.int IntKind.i64 (0 : Int)), (2, LV.int IntKind.i64 (0 : Int)), (1, LV.raw (Value.pointer (some { block := bf, off := 0 })))], H := [], nx := 7, orc := [] }) (by kernel_rfl) ?_
  exact leave_ok (fun _ => nofun) rfl fun w hs => ⟨rfl, hs.right⟩

end Go.Proofs.Ytaobahddincaiaa
