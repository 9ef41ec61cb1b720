/- Layer 20: the small functions, walked. -/
import Derived.Test.YtaobahddincaiaaA0
namespace Go.Proofs.Ytaobahddincaiaa
open Go Go.E Go.Proofs

def clampI (n most : Int) : Int := if n < 1 ∨ n > most then most else n

theorem clamp_spec (n most : Int) {w0 : World} {F : HP} {w : World} (hs : Sat w0 F w) :
    Calls Try.prog 14 #[.int .i64 n, .int .i64 most] w fun e w' => e = .returned (.int .i64 (clampI n most)) ∧ Sat w0 F w' := by
  refine Calls.enter (cfg := cfg14 w0) (β := []) (H := []) (F := F) (l := [.int .i64 n, .int .i64 most]) Try.func14 rfl rfl (Nat.le_of_ble_eq_true rfl) rfl (hs.eq (one_mul F).symm) ?_
  refine Go.run mixed 300 [] rfl ?_
  refine Ok.eq (r' := Res.ite (decide (n < (1 : Int)) || decide (n > most)) (Res.leave Leave.ret { stk := [It.code [1, 0, 1, 0, 1], It.code [1, 1]], fr := [(4, LV.int IntKind.i64 most), (0, LV.int IntKind.i64 n), (1, LV.int IntKind.i64 most)], H := [], nx := 0, orc := [] }) (Res.leave Leave.ret { stk := [It.code [1, 1, 1]], fr := [(4, LV.int IntKind.i64 n), (0, LV.int IntKind.i64 n), (1, LV.int IntKind.i64 most)], H := [], nx := 0, orc := [] })) (by kernel_rfl) ?_
  refine ⟨fun h => leave_ok (fun _ => nofun) rfl fun w hs => ?_, fun h => leave_ok (fun _ => nofun) rfl fun w hs => ?_⟩
  · simp at h
    exact ⟨by simp [den, clampI, h], hs.right⟩
  · simp at h
    exact ⟨by simp only [den, clampI]; rw [if_neg (by omega)], hs.right⟩

def d16 (a b : Int) : Int := IntKind.u16.wrap (b - a)
def less16 (a b : Int) : Bool := d16 a b != 0 && decide (d16 a b ≤ 32767)

theorem less_spec (a b : Int) {w0 : World} {F : HP} {w : World} (hs : Sat w0 F w) :
    Calls Try.prog 22 #[.int .u16 a, .int .u16 b] w fun e w' => e = .returned (.bool (less16 a b)) ∧ Sat w0 F w' := by
  refine Calls.enter (cfg := cfg22 w0) (β := []) (H := []) (F := F) (l := [.int .u16 a, .int .u16 b]) Try.func22 rfl rfl (Nat.le_of_ble_eq_true rfl) rfl (hs.eq (one_mul F).symm) ?_
  refine Go.run mixed 300 [] rfl ?_
  refine Ok.eq (r' := Res.leave Leave.ret { stk := [It.code [1, 1, 1]], fr := [(4, LV.bool (IntKind.wrap IntKind.u16 (b - a) != (0 : Int) && decide (IntKind.wrap IntKind.u16 (b - a) ≤ Int.fdiv (ibits BinOp.xor IntKind.u16 (bif false then (-1 : Int) else IntKind.max IntKind.u16) (IntKind.wrap IntKind.u16 (0 : Int))) ((2 : Int) ^ 1)))), (5, LV.int IntKind.u16 (IntKind.wrap IntKind.u16 (b - a))), (0, LV.int IntKind.u16 a), (1, LV.int IntKind.u16 b)], H := [], nx := 0, orc := [] }) (by kernel_rfl) ?_
  refine leave_ok (fun _ => nofun) rfl fun w hs => ?_
  have e : (ibits .xor .u16 (bif IntKind.u16.signed then -1 else IntKind.u16.max) (IntKind.u16.wrap 0)).fdiv (2 ^ 1) = 32767 := by decide
  exact ⟨by simp only [den, e]; rfl, hs.right⟩

theorem less16_spec (a b : Int) {w0 : World} {F : HP} {w : World} (hs : Sat w0 F w) :
    Calls Try.prog 21 #[.int .u16 a, .int .u16 b] w fun e w' => e = .returned (.bool (less16 a b)) ∧ Sat w0 F w' := by
  refine Calls.enter (cfg := cfg21 w0) (β := []) (H := []) (F := F) (l := [.int .u16 a, .int .u16 b]) Try.func21 rfl rfl (Nat.le_of_ble_eq_true rfl) rfl (hs.eq (one_mul F).symm) ?_
  refine Go.run mixed 300 [] rfl ?_
  refine Ok.eq (r' := Res.stop { stk := [It.reg [1, 0] [2, 3], It.code [1, 1]], fr := [(6, LV.int IntKind.u16 b), (5, LV.int IntKind.u16 a), (4, LV.cst (Value.bool false)), (0, LV.int IntKind.u16 a), (1, LV.int IntKind.u16 b)], H := [], nx := 0, orc := [] }) (by kernel_rfl) ?_
  refine fun _ => Go.call rfl rfl rfl rfl rfl fun w hs => (less_spec a b hs).mono fun e w' he => ⟨_, he.1, ?_⟩
  refine After.keep (γ := []) (lv := .bool (less16 a b)) rfl rfl rfl rfl he.2 ?_
  refine Go.run mixed 300 [] rfl ?_
  refine Ok.eq (r' := Res.leave Leave.ret { stk := [It.code [1, 1]], fr := [(4, LV.bool (less16 a b)), (0, LV.int IntKind.u16 a), (1, LV.int IntKind.u16 b)], H := [], nx := 0, orc := [] }) (by kernel_rfl) ?_
  refine leave_ok (fun _ => nofun) rfl fun w hs => ?_
  exact ⟨rfl, hs.right⟩

/-! A packet and its value -/
structure Pkt where
  marker : Bool
  kind : Int
  seq : Int
  stamp : Int
  source : Int
  db : Option Addr
  dn : Nat
  dc : Nat
  bytes : List Value
def Pkt.cells (p : Pkt) : List Value := [.bool p.marker, .int .u8 p.kind, .int .u16 p.seq, .int .u32 p.stamp, .int .u32 p.source, .slice p.db p.dn p.dc]
def Pkt.val (p : Pkt) : Value := .agg p.cells.toArray
def Pkt.lv (p : Pkt) : LV := .agg [.bool p.marker, .int .u8 p.kind, .int .u16 p.seq, .int .u32 p.stamp, .int .u32 p.source, .raw (.slice p.db p.dn p.dc)]
def Pkt.hp (p : Pkt) : HP := own 5 1 p.db p.dn p.dc p.bytes

def rightE (p : Pkt) : Int := if p.kind > 127 then 1 else if (p.dn : Int) > 1188 then 10 else 0

theorem right_spec (p : Pkt) {w0 : World} {F : HP} {w : World} (hs : Sat w0 F w) :
    Calls Try.prog 16 #[p.val] w fun e w' => e = .returned (.int .i64 (rightE p)) ∧ Sat w0 F w' := by
  refine Calls.enter (cfg := cfg16 w0) (β := []) (H := []) (F := F) (l := [p.lv]) Try.func16 rfl rfl (Nat.le_of_ble_eq_true rfl) rfl (hs.eq (one_mul F).symm) ?_
  refine Go.run mixed 300 [] rfl ?_
  refine Ok.eq (r' := Res.need [fun x ↦ Value.one (Value.slice (Pkt.db p) (Pkt.dn p) (Pkt.dc p)) = true] (Res.new (Res.ite (decide (Pkt.kind p > (127 : Int))) (Res.leave Leave.ret { stk := [It.code [1, 0, 0, 1, 0, 1], It.blk 0, It.code [1, 1]], fr := [(2, LV.int IntKind.i64 (1 : Int)), (1, LV.ptr 0 0), (0, LV.agg [LV.bool (Pkt.marker p), LV.int IntKind.u8 (Pkt.kind p), LV.int IntKind.u16 (Pkt.seq p), LV.int IntKind.u32 (Pkt.stamp p), LV.int IntKind.u32 (Pkt.source p), LV.raw (Value.slice (Pkt.db p) (Pkt.dn p) (Pkt.dc p))])], H := [(0, LO.lay [LV.bool (Pkt.marker p), LV.int IntKind.u8 (Pkt.kind p), LV.int IntKind.u16 (Pkt.seq p), LV.int IntKind.u32 (Pkt.stamp p), LV.int IntKind.u32 (Pkt.source p), LV.raw (Value.slice (Pkt.db p) (Pkt.dn p) (Pkt.dc p))] 33)], nx := 1, orc := [] }) (Res.ite (decide ((↑(Pkt.dn p) : Int) > (1188 : Int))) (Res.leave Leave.ret { stk := [It.code [1, 0, 0, 1, 1, 1, 0, 1], It.blk 0, It.code [1, 1]], fr := [(2, LV.int IntKind.i64 (10 : Int)), (1, LV.ptr 0 0), (0, LV.agg [LV.bool (Pkt.marker p), LV.int IntKind.u8 (Pkt.kind p), LV.int IntKind.u16 (Pkt.seq p), LV.int IntKind.u32 (Pkt.stamp p), LV.int IntKind.u32 (Pkt.source p), LV.raw (Value.slice (Pkt.db p) (Pkt.dn p) (Pkt.dc p))])], H := [(0, LO.lay [LV.bool (Pkt.marker p), LV.int IntKind.u8 (Pkt.kind p), LV.int IntKind.u16 (Pkt.seq p), LV.int IntKind.u32 (Pkt.stamp p), LV.int IntKind.u32 (Pkt.source p), LV.raw (Value.slice (Pkt.db p) (Pkt.dn p) (Pkt.dc p))] 33)], nx := 1, orc := [] }) (Res.leave Leave.ret { stk := [It.code [1, 1, 1]], fr := [(2, LV.int IntKind.i64 (0 : Int)), (1, LV.ptr 0 0), (0, LV.agg [LV.bool (Pkt.marker p), LV.int IntKind.u8 (Pkt.kind p), LV.int IntKind.u16 (Pkt.seq p), LV.int IntKind.u32 (Pkt.stamp p), LV.int IntKind.u32 (Pkt.source p), LV.raw (Value.slice (Pkt.db p) (Pkt.dn p) (Pkt.dc p))])], H := [(0, LO.lay [LV.bool (Pkt.marker p), LV.int IntKind.u8 (Pkt.kind p), LV.int IntKind.u16 (Pkt.seq p), LV.int IntKind.u32 (Pkt.stamp p), LV.int IntKind.u32 (Pkt.source p), LV.raw (Value.slice (Pkt.db p) (Pkt.dn p) (Pkt.dc p))] 33)], nx := 1, orc := [] }))))) (by kernel_rfl) ?_
  refine ⟨⟨rfl, trivial⟩, fun b => ⟨fun h => leave_ok (fun _ => nofun) rfl fun w hs => ⟨?_, hs.right⟩, fun h => ⟨fun h2 => leave_ok (fun _ => nofun) rfl fun w hs => ⟨?_, hs.right⟩, fun h2 => leave_ok (fun _ => nofun) rfl fun w hs => ⟨?_, hs.right⟩⟩⟩⟩
  · simp only [decide_eq_true_eq] at h
    simp only [den, rightE, if_pos h]
  · simp only [decide_eq_true_eq, decide_eq_false_iff_not] at h h2
    simp only [den, rightE, if_neg h, if_pos h2]
  · simp only [decide_eq_false_iff_not] at h h2
    simp only [den, rightE, if_neg h, if_neg h2]

structure Spk where
  known : Bool
  source : Int
  own : Int
  new : Int
def Spk.cells (s : Spk) : List Value := [.bool s.known, .int .u32 s.source, .int .u16 s.own, .int .u16 s.new]

def nextN (s : Spk) (p : Pkt) : Int :=
  if s.known then (if s.source = p.source then IntKind.u16.wrap (IntKind.u16.wrap (s.new + p.seq) - s.own) else IntKind.u16.wrap (s.new + 1)) else 0
def nextOk (s : Spk) (p : Pkt) : Bool :=
  if s.known then (if s.source = p.source then less16 s.own p.seq else true) else true

set_option maxRecDepth 100000 in
theorem next_spec (s : Spk) (p : Pkt) (b off : Nat) (cs : List Value) (hc : At cs off s.cells) {w0 : World} {F : HP} {w : World} (hs : Sat w0 (pt b (.cells cs.toArray 55 (0, 0)) * F) w) :
    Calls Try.prog 20 #[.pointer (some ⟨b, off, none⟩), p.val] w fun e w' => e = .returned (.tuple #[.int .u16 (nextN s p), .bool (nextOk s p)]) ∧ Sat w0 (pt b (.cells cs.toArray 55 (0, 0)) * F) w' := by
  have c0 := hc 0 _ rfl
  have c1 := hc 1 _ rfl
  have c2 := hc 2 _ rfl
  have c3 := hc 3 _ rfl
  have out : ∀ (b1 : Nat) {w : World} (o : Obj), Sat w0 (pt b1 o * (pt b (.cells cs.toArray 55 (0, 0)) * 1) * F) w → Sat w0 (pt b (.cells cs.toArray 55 (0, 0)) * F) w := fun b1 w o h => by
    rw [mul_one, star_assoc] at h; exact h.right
  refine Calls.enter (cfg := cfg20 w0) (β := [b]) (H := [(0, .arr cs 55)]) (F := F) (l := [.ptr 0 off, p.lv]) Try.func20 rfl rfl (Nat.le_of_ble_eq_true rfl) rfl (hs.eq ?_) ?_
  · simp [satH, atom, denO, bk, mul_one]
  refine Go.run mixed 300 [.bool s.known, .int .u32 s.source, .int .u16 s.new, .int .u16 s.own, .int .u16 s.own] rfl ?_
  refine Ok.eq (r' := Res.need [fun x ↦ Value.one (Value.slice (Pkt.db p) (Pkt.dn p) (Pkt.dc p)) = true] (Res.new (Res.need [fun β ↦ (fun x j ↦ cs[j]?) β (off + 0) = some (den β (LV.bool (Spk.known s)))] (Res.ite (!Spk.known s) (Res.leave Leave.ret { stk := [It.code [1, 0, 0, 1, 0, 1], It.blk 0, It.code [1, 1]], fr := [(5, LV.cst (Value.bool true)), (4, LV.int IntKind.u16 (0 : Int)), (3, LV.ptr 1 0), (0, LV.ptr 0 off), (1, LV.agg [LV.bool (Pkt.marker p), LV.int IntKind.u8 (Pkt.kind p), LV.int IntKind.u16 (Pkt.seq p), LV.int IntKind.u32 (Pkt.stamp p), LV.int IntKind.u32 (Pkt.source p), LV.raw (Value.slice (Pkt.db p) (Pkt.dn p) (Pkt.dc p))])], H := [(1, LO.lay [LV.bool (Pkt.marker p), LV.int IntKind.u8 (Pkt.kind p), LV.int IntKind.u16 (Pkt.seq p), LV.int IntKind.u32 (Pkt.stamp p), LV.int IntKind.u32 (Pkt.source p), LV.raw (Value.slice (Pkt.db p) (Pkt.dn p) (Pkt.dc p))] 33), (0, LO.arr cs 55)], nx := 2, orc := [LV.int IntKind.u32 (Spk.source s), LV.int IntKind.u16 (Spk.new s), LV.int IntKind.u16 (Spk.own s), LV.int IntKind.u16 (Spk.own s)] }) (Res.need [fun β ↦ (fun x j ↦ cs[j]?) β (off + 1) = some (den β (LV.int IntKind.u32 (Spk.source s)))] (Res.ite (Spk.source s != Pkt.source p) (Res.need [fun β ↦ (fun x j ↦ cs[j]?) β (off + 3) = some (den β (LV.int IntKind.u16 (Spk.new s)))] (Res.leave Leave.ret { stk := [It.code [1, 0, 0, 1, 1, 1, 0, 1], It.blk 0, It.code [1, 1]], fr := [(5, LV.cst (Value.bool true)), (4, LV.int IntKind.u16 (IntKind.wrap IntKind.u16 (Spk.new s + (1 : Int)))), (3, LV.ptr 1 0), (0, LV.ptr 0 off), (1, LV.agg [LV.bool (Pkt.marker p), LV.int IntKind.u8 (Pkt.kind p), LV.int IntKind.u16 (Pkt.seq p), LV.int IntKind.u32 (Pkt.stamp p), LV.int IntKind.u32 (Pkt.source p), LV.raw (Value.slice (Pkt.db p) (Pkt.dn p) (Pkt.dc p))])], H := [(1, LO.lay [LV.bool (Pkt.marker p), LV.int IntKind.u8 (Pkt.kind p), LV.int IntKind.u16 (Pkt.seq p), LV.int IntKind.u32 (Pkt.stamp p), LV.int IntKind.u32 (Pkt.source p), LV.raw (Value.slice (Pkt.db p) (Pkt.dn p) (Pkt.dc p))] 33), (0, LO.arr cs 55)], nx := 2, orc := [LV.int IntKind.u16 (Spk.own s), LV.int IntKind.u16 (Spk.own s)] })) (Res.need [fun β ↦ (fun x j ↦ cs[j]?) β (off + 3) = some (den β (LV.int IntKind.u16 (Spk.new s)))] (Res.need [fun β ↦ (fun x j ↦ cs[j]?) β (off + 2) = some (den β (LV.int IntKind.u16 (Spk.own s)))] (Res.need [fun β ↦ (fun x j ↦ cs[j]?) β (off + 2) = some (den β (LV.int IntKind.u16 (Spk.own s)))] (Res.stop { stk := [It.dop [1, 1, 0] 262143 2 2097151 [(1, LO.lay [LV.bool (Pkt.marker p), LV.int IntKind.u8 (Pkt.kind p), LV.int IntKind.u16 (Pkt.seq p), LV.int IntKind.u32 (Pkt.stamp p), LV.int IntKind.u32 (Pkt.source p), LV.raw (Value.slice (Pkt.db p) (Pkt.dn p) (Pkt.dc p))] 33), (0, LO.arr cs 55)] 18, It.code [1, 1, 1]], fr := [(42, LV.int IntKind.u16 (Pkt.seq p)), (41, LV.ptr 1 2), (40, LV.int IntKind.u16 (Spk.own s)), (39, LV.ptr 0 (off + 2)), (38, LV.ptr 0 off), (37, LV.ptr 0 off), (36, LV.int IntKind.u16 (IntKind.wrap IntKind.u16 (IntKind.wrap IntKind.u16 (Spk.new s + Pkt.seq p) - Spk.own s))), (35, LV.int IntKind.u16 (Spk.own s)), (34, LV.ptr 0 (off + 2)), (33, LV.ptr 0 off), (32, LV.ptr 0 off), (31, LV.int IntKind.u16 (IntKind.wrap IntKind.u16 (Spk.new s + Pkt.seq p))), (30, LV.int IntKind.u16 (Pkt.seq p)), (29, LV.ptr 1 2), (28, LV.int IntKind.u16 (Spk.new s)), (27, LV.ptr 0 (off + 3)), (26, LV.ptr 0 off), (25, LV.ptr 0 off), (5, LV.cst (Value.bool false)), (4, LV.int IntKind.u16 (0 : Int)), (3, LV.ptr 1 0), (0, LV.ptr 0 off), (1, LV.agg [LV.bool (Pkt.marker p), LV.int IntKind.u8 (Pkt.kind p), LV.int IntKind.u16 (Pkt.seq p), LV.int IntKind.u32 (Pkt.stamp p), LV.int IntKind.u32 (Pkt.source p), LV.raw (Value.slice (Pkt.db p) (Pkt.dn p) (Pkt.dc p))])], H := [(1, LO.lay [LV.bool (Pkt.marker p), LV.int IntKind.u8 (Pkt.kind p), LV.int IntKind.u16 (Pkt.seq p), LV.int IntKind.u32 (Pkt.stamp p), LV.int IntKind.u32 (Pkt.source p), LV.raw (Value.slice (Pkt.db p) (Pkt.dn p) (Pkt.dc p))] 33), (0, LO.arr cs 55)], nx := 2, orc := [] })))))))))) (by kernel_rfl) ?_
  refine ⟨⟨rfl, trivial⟩, fun b1 => ⟨⟨c0, trivial⟩, fun h => ?_, fun h => ⟨⟨c1, trivial⟩, fun h2 => ⟨⟨c3, trivial⟩, ?_⟩, fun h2 => ⟨⟨c3, trivial⟩, ⟨c2, trivial⟩, ⟨c2, trivial⟩, ?_⟩⟩⟩⟩
  · refine leave_ok (fun _ => nofun) rfl fun w hs => ⟨?_, out b1 _ hs⟩
    have h' : s.known = false := by simpa using h
    simp [den, denL, nextN, nextOk, h']
  · refine leave_ok (fun _ => nofun) rfl fun w hs => ⟨?_, out b1 _ hs⟩
    have h' : s.known = true := by simpa using h
    have h2' : ¬ s.source = p.source := by simpa using h2
    simp [den, denL, nextN, nextOk, h', h2']
  · have h' : s.known = true := by simpa using h
    have h2' : s.source = p.source := by simpa using h2
    refine fun _ => Go.callD rfl rfl rfl rfl rfl rfl rfl fun w hs => (less16_spec s.own p.seq hs).mono fun e w' he => ⟨_, he.1, [], _, _, .bool (less16 s.own p.seq), rfl, rfl, he.2, (fun _ => HSat.look he.2), ?_⟩
    refine Go.run mixed 300 [] rfl ?_
    refine Ok.eq (r' := Res.leave Leave.ret { stk := [It.code [1, 1, 1]], fr := [(5, LV.bool (less16 (Spk.own s) (Pkt.seq p))), (4, LV.int IntKind.u16 (IntKind.wrap IntKind.u16 (IntKind.wrap IntKind.u16 (Spk.new s + Pkt.seq p) - Spk.own s))), (3, LV.ptr 1 0), (0, LV.ptr 0 off), (1, LV.agg [LV.bool (Pkt.marker p), LV.int IntKind.u8 (Pkt.kind p), LV.int IntKind.u16 (Pkt.seq p), LV.int IntKind.u32 (Pkt.stamp p), LV.int IntKind.u32 (Pkt.source p), LV.raw (Value.slice (Pkt.db p) (Pkt.dn p) (Pkt.dc p))])], H := [(1, LO.lay [LV.bool (Pkt.marker p), LV.int IntKind.u8 (Pkt.kind p), LV.int IntKind.u16 (Pkt.seq p), LV.int IntKind.u32 (Pkt.stamp p), LV.int IntKind.u32 (Pkt.source p), LV.raw (Value.slice (Pkt.db p) (Pkt.dn p) (Pkt.dc p))] 33), (0, LO.arr cs 55)], nx := 2, orc := [] }) (by kernel_rfl) ?_
    refine leave_ok (fun _ => nofun) rfl fun w hs => ⟨?_, out b1 _ hs⟩
    simp [den, denL, nextN, nextOk, h', h2']

end Go.Proofs.Ytaobahddincaiaa
