/- Layer 20: a listener's memory, 'at', 'Clone' and 'hand', walked. -/
import Derived.Test.YtaobahddincaiaaA1
namespace Go.Proofs.Ytaobahddincaiaa
open Go Go.E Go.Proofs

/-- A forwarder's own block. -/
def fwdBlock (bl n : Nat) (room : Int) : Obj := .cells #[.slice (some ⟨bl, 0, none⟩) n n, .int .i64 room] 47 (0, 0)

theorem at_spec (bf bl n : Nat) (room : Int) (k : Nat) (hk : k < n) {w0 : World} {F : HP} {w : World} (hs : Sat w0 (pt bf (fwdBlock bl n room) * F) w) :
    Calls Try.prog 15 #[.pointer (some ⟨bf, 0, none⟩), .int .i64 k] w fun e w' => e = .returned (.pointer (some ⟨bl, k * 67, none⟩)) ∧ Sat w0 (pt bf (fwdBlock bl n room) * F) w' := by
  refine Calls.enter (cfg := cfg15 w0) (β := [bf, bl]) (H := [(0, .lay [.sl 1 0 n n, .int .i64 room] 47)]) (F := F) (l := [.ptr 0 0, .int .i64 k]) Try.func15 rfl rfl (Nat.le_of_ble_eq_true rfl) rfl (hs.eq ?_) ?_
  · simp [satH, atom, denO, bk, mul_one, fwdBlock, denL, den]
  refine Go.run mixed 300 [] rfl ?_
  refine Ok.eq (r' := Res.ite (decide ((↑k : Int) < (0 : Int)) || decide ((↑k : Int) ≥ (↑n : Int))) (Res.leave Leave.ret { stk := [It.code [1, 0, 1, 0, 1], It.code [1, 1]], fr := [(4, LV.cst (Value.pointer none)), (0, LV.ptr 0 0), (1, LV.int IntKind.i64 (↑k : Int))], H := [(0, LO.lay [LV.sl 1 0 n n, LV.int IntKind.i64 room] 47)], nx := 2, orc := [] }) (Res.need [fun x ↦ (0 : Int) ≤ (↑k : Int) ∧ (↑k : Int) < (↑n : Int)] (Res.leave Leave.ret { stk := [It.code [1, 1, 1]], fr := [(4, LV.ptr 1 (0 + Int.toNat (↑k : Int) * 67)), (0, LV.ptr 0 0), (1, LV.int IntKind.i64 (↑k : Int))], H := [(0, LO.lay [LV.sl 1 0 n n, LV.int IntKind.i64 room] 47)], nx := 2, orc := [] }))) (by kernel_rfl) ?_
  refine ⟨fun h => ?_, fun _ => ⟨⟨by omega, trivial⟩, leave_ok (fun _ => nofun) rfl fun w hs => ⟨?_, hs.eq ?_⟩⟩⟩
  · exfalso; simp at h; omega
  · simp [den, bk]
  · simp [satH, atom, denO, bk, mul_one, fwdBlock, denL, den]

/-- A copy of octets. -/
theorem clone_spec (base : Option Addr) (n c : Nat) (l : List Value) (hn : n ≤ 100000) {w0 : World} {F : HP} {w : World} (hs : Sat w0 (own 5 1 base n c l * F) w) :
    Calls Try.prog 17 #[.slice base n c] w fun e w' => ∃ base' c', e = .returned (.slice base' n c') ∧ Sat w0 (own 5 1 base' n c' l * (own 5 1 base n c l * F)) w' := by
  rcases own_cases hs with ⟨rfl, rfl, rfl, rfl, hF⟩ | ⟨s, ⟨rfl, h1, h2, h3, h4⟩, hF⟩
  · refine Calls.enter (cfg := cfg17 w0) (β := []) (H := []) (F := F) (l := [.cst (.slice none 0 0)]) Try.func17 rfl rfl (Nat.le_of_ble_eq_true rfl) rfl (hF.eq (one_mul F).symm) ?_
    refine Go.run mixed 300 [] rfl ?_
    refine Ok.eq (r' := Res.leave Leave.ret { stk := [It.code [1, 0, 1, 0, 1], It.code [1, 1]], fr := [(2, LV.cst (Value.slice none 0 0)), (0, LV.cst (Value.slice none 0 0))], H := [], nx := 0, orc := [] }) (by kernel_rfl) ?_
    refine leave_ok (fun _ => nofun) rfl fun w hs => ⟨none, 0, rfl, own_nil (own_nil hs.right)⟩
  · refine Calls.enter (cfg := cfg17 w0) (β := [s.b]) (H := [(0, .arr (s.pre ++ l ++ s.spare) 5)]) (F := F) (l := [.sl 0 s.pre.length n c]) Try.func17 rfl rfl (Nat.le_of_ble_eq_true rfl) rfl (hF.eq ?_) ?_
    · simp [satH, atom, denO, bk, mul_one]
    refine Go.run mixed 300 [] rfl ?_
    refine Ok.eq (r' := Res.new (Res.stop { stk := [It.reg [1, 1, 0] [2, 3], It.code [1, 1, 1]], fr := [(6, LV.sl 0 (List.length (Strip.pre s)) n c), (5, LV.sl 1 0 0 0), (2, LV.cst (Value.slice none 0 0)), (0, LV.sl 0 (List.length (Strip.pre s)) n c)], H := [(1, LO.lay [] 5), (0, LO.arr (Strip.pre s ++ l ++ Strip.spare s) 5)], nx := 2, orc := [] })) (by kernel_rfl) ?_
    refine fun b1 _ => Go.append (base := some ⟨b1, 0, none⟩) (n := 0) (c := 0) (e := 5) (sz := 1) n rfl rfl rfl rfl rfl rfl rfl rfl rfl rfl rfl fun w hs => ?_
    refine ⟨[], l, pt s.b (.cells (s.pre ++ l ++ s.spare).toArray 5) * F, [], ?_, ?_, (show (0 + n) * 1 ≤ 140737488355328 by omega), by omega, fun base' c' => ?_⟩
    · refine own_strip ⟨b1, [], []⟩ ⟨rfl, rfl, Nat.le_refl _, rfl, by simp⟩ (hs.eq ?_)
      simp [satH, atom, denO, bk, mul_one, one_mul, denL, star_assoc]
    · have hb : w.heap[s.b]? = some (.cells (s.pre ++ l ++ s.spare).toArray 5) := by
        refine Sat.get (F := pt b1 (.cells #[] 5) * F) (hs.eq ?_)
        simp [satH, atom, denO, bk, mul_one, denL, star_assoc]; ac_rfl
      exact Src.of_block (tx := 31) (e' := 5) rfl hb h1 (fun j u hj => by simpa [At] using (At.mid (a := s.pre) (m := l) (b := s.spare)) j u hj) h4
    · refine Go.run mixed 300 [] rfl ?_
      refine Ok.eq (r' := Res.leave Leave.ret { stk := [It.code [1, 1, 1]], fr := [(2, LV.raw (Value.slice base' (0 + n) c')), (0, LV.sl 0 (List.length (Strip.pre s)) n c)], H := [], nx := 2, orc := [] }) (by kernel_rfl) ?_
      refine leave_ok (fun _ => nofun) rfl fun w hs => ⟨base', c', ?_, ?_⟩
      · simp [den]
      · have := hs.right
        rw [Nat.zero_add, List.nil_append] at this
        refine (Sat.eq ?_ (star_left _ _ _))
        refine own_strip s ⟨rfl, h1, h2, h3, h4⟩ (this.eq (star_left _ _ _))

structure Lis where
  listens : Bool
  of : List Spk
  wait : List Pkt
  lost : Int
/-- With where its packets lie. -/
structure LisM extends Lis where
  wb : Option Addr
  wc : Nat
def LisM.cells (x : LisM) : List Value := .bool x.listens :: (x.of.flatMap Spk.cells ++ [.slice x.wb x.wait.length x.wc, .int .i64 x.lost])
def LisM.ownW (x : LisM) : HP := own 33 6 x.wb x.wait.length x.wc (x.wait.flatMap Pkt.cells)

theorem LisM.flat (x : LisM) (hof : x.of.length = 16) : (x.of.flatMap Spk.cells).length = 64 := by rw [flat_length (n := 4) (fun _ _ => rfl), hof]
theorem LisM.ne (x : LisM) : x.cells ≠ [] := by simp [LisM.cells]
theorem LisM.len (x : LisM) (hof : x.of.length = 16) : x.cells.length = 67 := by simp [LisM.cells, x.flat hof]
theorem LisM.cells1 (x : LisM) : x.cells = [.bool x.listens] ++ x.of.flatMap Spk.cells ++ [.slice x.wb x.wait.length x.wc, .int .i64 x.lost] := rfl
theorem LisM.cells2 (x : LisM) : x.cells = (.bool x.listens :: x.of.flatMap Spk.cells) ++ [.slice x.wb x.wait.length x.wc, .int .i64 x.lost] ++ [] := by simp [LisM.cells]
theorem LisM.at_of (x : LisM) {src : Nat} {s : Spk} (h : x.of[src]? = some s) : At x.cells (1 + 4 * src) s.cells := by
  rw [x.cells1]
  exact (At.mid (a := [.bool x.listens])).part (flat_at (fun _ _ => rfl) h)
theorem LisM.at_tail (x : LisM) (hof : x.of.length = 16) : At x.cells 65 [.slice x.wb x.wait.length x.wc, .int .i64 x.lost] := by
  have := At.mid (a := .bool x.listens :: x.of.flatMap Spk.cells) (m := [.slice x.wb x.wait.length x.wc, .int .i64 x.lost]) (b := [])
  rw [← x.cells2] at this
  rwa [List.length_cons, x.flat hof] at this
theorem LisM.set_of (x : LisM) {src : Nat} {s : Spk} (s' : Spk) (hof : x.of.length = 16) (h : x.of[src]? = some s) : setL x.cells (1 + 4 * src) s'.cells = ({ x with of := x.of.set src s' } : LisM).cells := by
  have hlt : src < 16 := hof ▸ (List.getElem?_eq_some_iff.1 h).1
  rw [x.cells1, show (1 : Nat) = ([.bool x.listens] : List Value).length from rfl, setL_mid (by rw [x.flat hof]; show 4 * src + 4 ≤ 64; omega), flat_set (g := Spk.cells) (n := 4) (fun _ _ => rfl) h rfl]
  rfl
theorem LisM.set_tail (x x' : LisM) (hof : x.of.length = 16) (h1 : x'.listens = x.listens) (h2 : x'.of = x.of) (j : Nat) (vs : List Value) (hj : j + vs.length ≤ 2)
    (h : setL [.slice x.wb x.wait.length x.wc, .int .i64 x.lost] j vs = [.slice x'.wb x'.wait.length x'.wc, .int .i64 x'.lost]) : setL x.cells (65 + j) vs = x'.cells := by
  rw [x.cells2, show 65 = (.bool x.listens :: x.of.flatMap Spk.cells).length by rw [List.length_cons, x.flat hof], setL_mid hj, h, x'.cells2, h1, h2]

/-- What a packet turns to that is handed over. -/
def handPk (s : Spk) (src : Nat) (p : Pkt) : Pkt := { p with seq := nextN s p, source := IntKind.u32.wrap (IntKind.u32.wrap src + 1) }
def handOk (x : Lis) (s : Spk) (p : Pkt) (room : Int) : Bool := x.listens && nextOk s p && decide ((x.wait.length : Int) < room)
def handL (x : Lis) (src : Nat) (s : Spk) (p : Pkt) (room : Int) : Lis :=
  if x.listens && nextOk s p then
    (if (x.wait.length : Int) < room then { x with of := x.of.set src ⟨true, p.source, p.seq, nextN s p⟩, wait := x.wait ++ [handPk s src p] }
     else { x with of := x.of.set src ⟨true, p.source, p.seq, nextN s p⟩, lost := IntKind.i64.wrap (x.lost + 1) })
  else x

theorem hand_spec (x : LisM) (src : Nat) (s : Spk) (p : Pkt) (room : Int) (bl off : Nat) (cs : List Value) (hc : At cs off x.cells) (hof : x.of.length = 16) (hsrc : x.of[src]? = some s) (hw : x.wait.length ≤ 100000)
    {w0 : World} {F : HP} {w : World} (hs : Sat w0 (pt bl (.cells cs.toArray 55 (0, 0)) * (x.ownW * F)) w) :
    Calls Try.prog 18 #[.pointer (some ⟨bl, off, none⟩), .int .i64 src, p.val, .int .i64 room] w fun e w' => ∃ x' : LisM, x'.toLis = handL x.toLis src s p room ∧
      e = .returned (.bool (handOk x.toLis s p room)) ∧ Sat w0 (pt bl (.cells (setL cs off x'.cells).toArray 55 (0, 0)) * (x'.ownW * F)) w' := by
  refine Calls.enter (cfg := cfg18 w0) (β := [bl]) (H := [(0, .arr cs 55)]) (F := x.ownW * F) (l := [.ptr 0 off, .int .i64 src, p.lv, .int .i64 room]) Try.func18 rfl rfl (Nat.le_of_ble_eq_true rfl) rfl (hs.eq ?_) ?_
  · simp [satH, atom, denO, bk, mul_one]
  refine Go.run mixed 300 [] rfl ?_
  refine Ok.eq (r' := Res.need [fun x ↦ Value.one (Value.slice (Pkt.db p) (Pkt.dn p) (Pkt.dc p)) = true] (Res.new (Res.need [fun x ↦ (0 : Int) ≤ (↑src : Int) ∧ (↑src : Int) < (↑16 : Int)] (Res.stop { stk := [It.dop [1, 0] 63 5 4095 [(1, LO.lay [LV.bool (Pkt.marker p), LV.int IntKind.u8 (Pkt.kind p), LV.int IntKind.u16 (Pkt.seq p), LV.int IntKind.u32 (Pkt.stamp p), LV.int IntKind.u32 (Pkt.source p), LV.raw (Value.slice (Pkt.db p) (Pkt.dn p) (Pkt.dc p))] 33), (0, LO.arr cs 55)] 6, It.code [1, 1]], fr := [(17, LV.agg [LV.bool (Pkt.marker p), LV.int IntKind.u8 (Pkt.kind p), LV.int IntKind.u16 (Pkt.seq p), LV.int IntKind.u32 (Pkt.stamp p), LV.int IntKind.u32 (Pkt.source p), LV.raw (Value.slice (Pkt.db p) (Pkt.dn p) (Pkt.dc p))]), (16, LV.ptr 0 (off + 1 + Int.toNat (↑src : Int) * 4)), (15, LV.ptr 0 (off + 1)), (14, LV.ptr 0 off), (13, LV.int IntKind.i64 (↑src : Int)), (12, LV.ptr 0 off), (8, LV.cst (Value.bool false)), (6, LV.ptr 1 0), (0, LV.ptr 0 off), (1, LV.int IntKind.i64 (↑src : Int)), (2, LV.agg [LV.bool (Pkt.marker p), LV.int IntKind.u8 (Pkt.kind p), LV.int IntKind.u16 (Pkt.seq p), LV.int IntKind.u32 (Pkt.stamp p), LV.int IntKind.u32 (Pkt.source p), LV.raw (Value.slice (Pkt.db p) (Pkt.dn p) (Pkt.dc p))]), (3, LV.int IntKind.i64 room)], H := [(1, LO.lay [LV.bool (Pkt.marker p), LV.int IntKind.u8 (Pkt.kind p), LV.int IntKind.u16 (Pkt.seq p), LV.int IntKind.u32 (Pkt.stamp p), LV.int IntKind.u32 (Pkt.source p), LV.raw (Value.slice (Pkt.db p) (Pkt.dn p) (Pkt.dc p))] 33), (0, LO.arr cs 55)], nx := 2, orc := [] })))) (by kernel_rfl) ?_
  have hne := x.ne
  have hlen := x.len hof
  have hcs : At cs (off + 1 + src * 4) s.cells := by
    have := hc.part (x.at_of hsrc)
    rwa [show off + (1 + 4 * src) = off + 1 + src * 4 by omega] at this
  have hlt : src < 16 := hof ▸ (List.getElem?_eq_some_iff.1 hsrc).1
  refine ⟨⟨rfl, trivial⟩, fun b1 => ⟨⟨by omega, trivial⟩, fun _ => Go.callD rfl rfl rfl rfl rfl rfl rfl fun w hs => ?_⟩⟩
  refine (next_spec s p bl (off + 1 + src * 4) cs hcs (F := pt b1 (.cells p.cells.toArray 33) * (x.ownW * F)) (hs.eq ?_)).mono fun e w' he => ⟨_, he.1, [], [(1, .lay [.bool p.marker, .int .u8 p.kind, .int .u16 p.seq, .int .u32 p.stamp, .int .u32 p.source, .raw (.slice p.db p.dn p.dc)] 33), (0, .arr cs 55)], x.ownW * F, .tup [.int .u16 (nextN s p), .bool (nextOk s p)], rfl, rfl, ?_, ?_, ?_⟩
  · simp [satH, atom, denO, bk, mul_one, denL, den, Pkt.cells, star_assoc]; ac_rfl
  · refine he.2.eq ?_
    simp [satH, atom, denO, bk, mul_one, denL, den, Pkt.cells, star_assoc]; ac_rfl
  · intro _
    refine HSat.look (F := x.ownW * F) (he.2.eq ?_)
    simp [satH, atom, denO, bk, mul_one, denL, den, Pkt.cells, star_assoc]; ac_rfl
  refine Go.runS mixed 300 [.bool x.listens, .raw (.slice x.wb x.wait.length x.wc)] [6, 8] rfl ?_
  refine Ok.eq (r' := Res.need [fun β ↦ (fun x j ↦ cs[j]?) β (off + 0) = some (den β (LV.bool (Lis.listens (LisM.toLis x))))] (Res.ite (!Lis.listens (LisM.toLis x) || !nextOk s p) (Res.leave Leave.ret { stk := [It.code [1, 1, 0, 1, 0, 1], It.code [1, 1, 1]], fr := [(8, LV.cst (Value.bool false)), (10, LV.bool (nextOk s p)), (9, LV.int IntKind.u16 (nextN s p)), (6, LV.ptr 1 0), (0, LV.ptr 0 off), (1, LV.int IntKind.i64 (↑src : Int)), (2, LV.agg [LV.bool (Pkt.marker p), LV.int IntKind.u8 (Pkt.kind p), LV.int IntKind.u16 (Pkt.seq p), LV.int IntKind.u32 (Pkt.stamp p), LV.int IntKind.u32 (Pkt.source p), LV.raw (Value.slice (Pkt.db p) (Pkt.dn p) (Pkt.dc p))]), (3, LV.int IntKind.i64 room)], H := [(1, LO.lay [LV.bool (Pkt.marker p), LV.int IntKind.u8 (Pkt.kind p), LV.int IntKind.u16 (Pkt.seq p), LV.int IntKind.u32 (Pkt.stamp p), LV.int IntKind.u32 (Pkt.source p), LV.raw (Value.slice (Pkt.db p) (Pkt.dn p) (Pkt.dc p))] 33), (0, LO.arr cs 55)], nx := 2, orc := [LV.raw (Value.slice (LisM.wb x) (List.length (Lis.wait (LisM.toLis x))) (LisM.wc x))] }) (Res.need [fun x ↦ (0 : Int) ≤ (↑src : Int) ∧ (↑src : Int) < (↑16 : Int)] (Res.need [fun x ↦ off + 1 + Int.toNat (↑src : Int) * 4 + 4 ≤ List.length cs] (Res.need [fun β ↦ (fun x j ↦ (setL cs (off + 1 + Int.toNat (↑src : Int) * 4) (denL [] [LV.cst (Value.bool true), LV.int IntKind.u32 (Pkt.source p), LV.int IntKind.u16 (Pkt.seq p), LV.int IntKind.u16 (nextN s p)]))[j]?) β (off + 65) = some (den β (LV.raw (Value.slice (LisM.wb x) (List.length (Lis.wait (LisM.toLis x))) (LisM.wc x))))] (Res.ite (decide ((↑(List.length (Lis.wait (LisM.toLis x))) : Int) ≥ room)) (Res.stop { stk := [It.code [1, 1, 1, 1, 0, 1, 0, 0], It.code [1, 1, 1, 1, 0, 1, 0, 1], It.code [1, 1, 1, 1, 1]], fr := [(10, LV.bool (nextOk s p)), (9, LV.int IntKind.u16 (nextN s p)), (8, LV.cst (Value.bool false)), (6, LV.ptr 1 0), (0, LV.ptr 0 off), (1, LV.int IntKind.i64 (↑src : Int)), (2, LV.agg [LV.bool (Pkt.marker p), LV.int IntKind.u8 (Pkt.kind p), LV.int IntKind.u16 (Pkt.seq p), LV.int IntKind.u32 (Pkt.stamp p), LV.int IntKind.u32 (Pkt.source p), LV.raw (Value.slice (Pkt.db p) (Pkt.dn p) (Pkt.dc p))]), (3, LV.int IntKind.i64 room)], H := [(1, LO.lay [LV.bool (Pkt.marker p), LV.int IntKind.u8 (Pkt.kind p), LV.int IntKind.u16 (Pkt.seq p), LV.int IntKind.u32 (Pkt.stamp p), LV.int IntKind.u32 (Pkt.source p), LV.raw (Value.slice (Pkt.db p) (Pkt.dn p) (Pkt.dc p))] 33), (0, LO.arr (setL cs (off + 1 + Int.toNat (↑src : Int) * 4) (denL [] [LV.cst (Value.bool true), LV.int IntKind.u32 (Pkt.source p), LV.int IntKind.u16 (Pkt.seq p), LV.int IntKind.u16 (nextN s p)])) 55)], nx := 2, orc := [] }) (Res.stop { stk := [It.code [1, 1, 1, 1, 1, 0], It.code [1, 1, 1, 1, 1, 1]], fr := [(10, LV.bool (nextOk s p)), (9, LV.int IntKind.u16 (nextN s p)), (8, LV.cst (Value.bool false)), (6, LV.ptr 1 0), (0, LV.ptr 0 off), (1, LV.int IntKind.i64 (↑src : Int)), (2, LV.agg [LV.bool (Pkt.marker p), LV.int IntKind.u8 (Pkt.kind p), LV.int IntKind.u16 (Pkt.seq p), LV.int IntKind.u32 (Pkt.stamp p), LV.int IntKind.u32 (Pkt.source p), LV.raw (Value.slice (Pkt.db p) (Pkt.dn p) (Pkt.dc p))]), (3, LV.int IntKind.i64 room)], H := [(1, LO.lay [LV.bool (Pkt.marker p), LV.int IntKind.u8 (Pkt.kind p), LV.int IntKind.u16 (Pkt.seq p), LV.int IntKind.u32 (Pkt.stamp p), LV.int IntKind.u32 (Pkt.source p), LV.raw (Value.slice (Pkt.db p) (Pkt.dn p) (Pkt.dc p))] 33), (0, LO.arr (setL cs (off + 1 + Int.toNat (↑src : Int) * 4) (denL [] [LV.cst (Value.bool true), LV.int IntKind.u32 (Pkt.source p), LV.int IntKind.u16 (Pkt.seq p), LV.int IntKind.u16 (nextN s p)])) 55)], nx := 2, orc := [] }))))))) (by kernel_rfl) ?_
  obtain ⟨x1, hx1⟩ : ∃ x1 : LisM, x1 = { x with of := x.of.set src ⟨true, p.source, p.seq, nextN s p⟩ } := ⟨_, rfl⟩
  have hle : off + 67 ≤ cs.length := hlen ▸ hc.le hne
  have hset : setL cs (off + 1 + src * 4) [.bool true, .int .u32 p.source, .int .u16 p.seq, .int .u16 (nextN s p)] = setL cs off x1.cells := by
    have := hc.setL (j := 1 + 4 * src) (vs := Spk.cells ⟨true, p.source, p.seq, nextN s p⟩) (by rw [hlen]; show 1 + 4 * src + 4 ≤ 67; omega) hne
    rw [x.set_of _ hof hsrc, ← hx1] at this
    rw [← this, show off + (1 + 4 * src) = off + 1 + src * 4 by omega]; rfl
  have hof1 : x1.of.length = 16 := by rw [hx1]; simp [hof]
  have hlen1 := x1.len hof1
  have hc1 : At (setL cs off x1.cells) off x1.cells := hc.set hne (by rw [hlen, hlen1])
  have own1 : x1.ownW = x.ownW := by rw [hx1]; rfl
  have hwb : x.wb = x1.wb := by rw [hx1]
  have hwc : x.wc = x1.wc := by rw [hx1]
  have hwt : x.wait = x1.wait := by rw [hx1]
  rw [show setL cs (off + 1 + (src : Int).toNat * 4) (denL [] [.cst (.bool true), .int .u32 p.source, .int .u16 p.seq, .int .u16 (nextN s p)]) = setL cs off x1.cells from hset]
  refine ⟨⟨?_, trivial⟩, fun h => ?_, fun h => ⟨⟨by omega, trivial⟩, ⟨?_, trivial⟩, ⟨?_, trivial⟩, fun h2 => ?_, fun h2 => ?_⟩⟩
  · exact hc.get (j := 0) rfl
  · have hno : (x.listens && nextOk s p) = false := by
      cases hb : x.listens <;> cases hb2 : nextOk s p <;> simp [hb, hb2] at h <;> rfl
    refine leave_ok (fun _ => nofun) rfl fun w hs => ⟨x, ?_, ?_, ?_⟩
    · simp [handL, hno]
    · simp [den, handOk, hno]
    · rw [setL_self hc hne]
      refine Sat.right (p := pt b1 (.cells p.cells.toArray 33)) (hs.eq ?_)
      simp [satH, atom, denO, bk, mul_one, denL, den, Pkt.cells, star_assoc]
  · omega
  · rw [hwb, hwc, hwt]
    exact (hc1.part (x1.at_tail hof1)).get (j := 0) rfl
  · refine fun _ => Go.run mixed 300 [.int .i64 x1.lost] rfl ?_
    refine Ok.eq (r' := Res.need [fun β ↦ (fun x j ↦ (setL cs off (LisM.cells x1))[j]?) β (off + 66) = some (den β (LV.int IntKind.i64 (Lis.lost (LisM.toLis x1))))] (Res.need [fun x ↦ off + 66 + 1 ≤ List.length (setL cs off (LisM.cells x1))] (Res.leave Leave.ret { stk := [It.code [1, 1, 1, 1, 0, 1, 0, 1, 1], It.code [1, 1, 1, 1, 1]], fr := [(8, LV.cst (Value.bool false)), (10, LV.bool (nextOk s p)), (9, LV.int IntKind.u16 (nextN s p)), (6, LV.ptr 1 0), (0, LV.ptr 0 off), (1, LV.int IntKind.i64 (↑src : Int)), (2, LV.agg [LV.bool (Pkt.marker p), LV.int IntKind.u8 (Pkt.kind p), LV.int IntKind.u16 (Pkt.seq p), LV.int IntKind.u32 (Pkt.stamp p), LV.int IntKind.u32 (Pkt.source p), LV.raw (Value.slice (Pkt.db p) (Pkt.dn p) (Pkt.dc p))]), (3, LV.int IntKind.i64 room)], H := [(1, LO.lay [LV.bool (Pkt.marker p), LV.int IntKind.u8 (Pkt.kind p), LV.int IntKind.u16 (Pkt.seq p), LV.int IntKind.u32 (Pkt.stamp p), LV.int IntKind.u32 (Pkt.source p), LV.raw (Value.slice (Pkt.db p) (Pkt.dn p) (Pkt.dc p))] 33), (0, LO.arr (setL (setL cs off (LisM.cells x1)) (off + 66) (denL [] [LV.int IntKind.i64 (IntKind.wrap IntKind.i64 (Lis.lost (LisM.toLis x1) + (1 : Int)))])) 55)], nx := 2, orc := [] }))) (by kernel_rfl) ?_
    have hno : decide ((x.wait.length : Int) < room) = false := by simp at h2; simp; omega
    have hyes : (x.listens && nextOk s p) = true := by
      cases hb : x.listens <;> cases hb2 : nextOk s p <;> simp [hb, hb2] at h <;> rfl
    obtain ⟨x2, hx2⟩ : ∃ x2 : LisM, x2 = { x1 with lost := IntKind.i64.wrap (x1.lost + 1) } := ⟨_, rfl⟩
    have e2 : setL (setL cs off x1.cells) (off + 66) (denL [] [.int .i64 (IntKind.i64.wrap (x1.lost + 1))]) = setL cs off x2.cells := by
      show setL (setL cs off x1.cells) (off + (65 + 1)) [.int .i64 (IntKind.i64.wrap (x1.lost + 1))] = _
      rw [hc1.setL (by rw [hlen1]; simp) x1.ne, x1.set_tail x2 hof1 (by rw [hx2]) (by rw [hx2]) 1 _ (by simp) (by rw [hx2]; rfl), setL_setL (by omega) (by rw [hlen1, x2.len (by rw [hx2]; exact hof1)])]
    refine ⟨⟨(hc1.part (x1.at_tail hof1)).get (j := 1) rfl, trivial⟩, ⟨by rw [setL_length]; omega, trivial⟩, leave_ok (fun _ => nofun) rfl fun w hs => ⟨x2, ?_, ?_, ?_⟩⟩
    · have hno' : ¬ (x.wait.length : Int) < room := by simpa using hno
      simp [handL, hyes, hno', hx2, hx1]
    · simp [den, handOk, hno]
    · have own2 : x2.ownW = x.ownW := by rw [hx2, hx1]; rfl
      rw [own2, ← e2]
      refine Sat.right (p := pt b1 (.cells p.cells.toArray 33)) (hs.eq ?_)
      simp [satH, atom, denO, bk, mul_one, denL, den, Pkt.cells, star_assoc]
  · refine fun _ => Go.run mixed 300 [.raw (.slice x1.wb x1.wait.length x1.wc)] rfl ?_
    refine Ok.eq (r' := Res.need [fun β ↦ (fun x j ↦ (setL cs off (LisM.cells x1))[j]?) β (off + 65) = some (den β (LV.raw (Value.slice (LisM.wb x1) (List.length (Lis.wait (LisM.toLis x1))) (LisM.wc x1))))] (Res.need [fun x ↦ Value.one (Value.slice (Pkt.db p) (Pkt.dn p) (Pkt.dc p)) = true] (Res.new (Res.stop { stk := [It.dop [1, 1, 1, 1, 1, 1, 0] 127 3 1023 [(1, LO.lay [LV.bool (Pkt.marker p), LV.int IntKind.u8 (Pkt.kind p), LV.int IntKind.u16 (nextN s p), LV.int IntKind.u32 (Pkt.stamp p), LV.int IntKind.u32 (IntKind.wrap IntKind.u32 (IntKind.wrap IntKind.u32 (↑src : Int) + (1 : Int))), LV.raw (Value.slice (Pkt.db p) (Pkt.dn p) (Pkt.dc p))] 33), (0, LO.arr (setL cs off (LisM.cells x1)) 55)] 7, It.code [1, 1, 1, 1, 1, 1, 1]], fr := [(67, LV.sl 2 0 1 1), (66, LV.agg [LV.bool (Pkt.marker p), LV.int IntKind.u8 (Pkt.kind p), LV.int IntKind.u16 (nextN s p), LV.int IntKind.u32 (Pkt.stamp p), LV.int IntKind.u32 (IntKind.wrap IntKind.u32 (IntKind.wrap IntKind.u32 (↑src : Int) + (1 : Int))), LV.raw (Value.slice (Pkt.db p) (Pkt.dn p) (Pkt.dc p))]), (65, LV.raw (Value.slice (LisM.wb x1) (List.length (Lis.wait (LisM.toLis x1))) (LisM.wc x1))), (64, LV.ptr 0 (off + 65)), (63, LV.ptr 0 off), (62, LV.ptr 0 off), (61, LV.ptr 0 off), (10, LV.bool (nextOk s p)), (9, LV.int IntKind.u16 (nextN s p)), (8, LV.cst (Value.bool false)), (6, LV.ptr 1 0), (0, LV.ptr 0 off), (1, LV.int IntKind.i64 (↑src : Int)), (2, LV.agg [LV.bool (Pkt.marker p), LV.int IntKind.u8 (Pkt.kind p), LV.int IntKind.u16 (Pkt.seq p), LV.int IntKind.u32 (Pkt.stamp p), LV.int IntKind.u32 (Pkt.source p), LV.raw (Value.slice (Pkt.db p) (Pkt.dn p) (Pkt.dc p))]), (3, LV.int IntKind.i64 room)], H := [(2, LO.lay [LV.bool (Pkt.marker p), LV.int IntKind.u8 (Pkt.kind p), LV.int IntKind.u16 (nextN s p), LV.int IntKind.u32 (Pkt.stamp p), LV.int IntKind.u32 (IntKind.wrap IntKind.u32 (IntKind.wrap IntKind.u32 (↑src : Int) + (1 : Int))), LV.raw (Value.slice (Pkt.db p) (Pkt.dn p) (Pkt.dc p))] 33), (1, LO.lay [LV.bool (Pkt.marker p), LV.int IntKind.u8 (Pkt.kind p), LV.int IntKind.u16 (nextN s p), LV.int IntKind.u32 (Pkt.stamp p), LV.int IntKind.u32 (IntKind.wrap IntKind.u32 (IntKind.wrap IntKind.u32 (↑src : Int) + (1 : Int))), LV.raw (Value.slice (Pkt.db p) (Pkt.dn p) (Pkt.dc p))] 33), (0, LO.arr (setL cs off (LisM.cells x1)) 55)], nx := 3, orc := [] })))) (by kernel_rfl) ?_
    have hyes : decide ((x.wait.length : Int) < room) = true := by simp at h2; simp; omega
    have hok : (x.listens && nextOk s p) = true := by
      cases hb : x.listens <;> cases hb2 : nextOk s p <;> simp [hb, hb2] at h <;> rfl
    refine ⟨⟨(hc1.part (x1.at_tail hof1)).get (j := 0) rfl, trivial⟩, ⟨rfl, trivial⟩, fun b2 _ => ?_⟩
    refine Go.appendD (base := x1.wb) (n := x1.wait.length) (c := x1.wc) (e := 33) (sz := 6) 1 rfl rfl rfl rfl rfl rfl rfl rfl rfl rfl rfl rfl fun w hs => ?_
    refine ⟨x1.wait.flatMap Pkt.cells, (handPk s src p).cells, pt b2 (.cells (handPk s src p).cells.toArray 33) * F, [(1, .lay [.bool p.marker, .int .u8 p.kind, .int .u16 (nextN s p), .int .u32 p.stamp, .int .u32 (IntKind.u32.wrap (IntKind.u32.wrap src + 1)), .raw (.slice p.db p.dn p.dc)] 33), (0, .arr (setL cs off x1.cells) 55)], ?_, ?_, ?_, by rw [← hwt]; omega, .inl rfl, fun base' c' => ?_⟩
    · refine hs.eq ?_
      rw [← own1]
      simp [satH, atom, denO, bk, mul_one, denL, den, Pkt.cells, handPk, star_assoc, LisM.ownW]; ac_rfl
    · have hb : w.heap[b2]? = some (.cells (handPk s src p).cells.toArray 33) := by
        refine Sat.get (F := satH w0 [bl, b1, b2] [(1, .lay [.bool p.marker, .int .u8 p.kind, .int .u16 (nextN s p), .int .u32 p.stamp, .int .u32 (IntKind.u32.wrap (IntKind.u32.wrap src + 1)), .raw (.slice p.db p.dn p.dc)] 33), (0, .arr (setL cs off x1.cells) 55)] * (x.ownW * F)) (hs.eq ?_)
        simp [satH, atom, denO, bk, mul_one, denL, den, Pkt.cells, handPk, star_assoc]
      exact Src.of_block (tx := 53) (e' := 33) rfl hb rfl (fun j u hj => by simpa using hj) (by simp [Pkt.cells, Value.one])
    · rw [← hwt]
      show (x.wait.length + 1) * 40 ≤ _
      omega
    · obtain ⟨x2, hx2⟩ : ∃ x2 : LisM, x2 = { x1 with wait := x1.wait ++ [handPk s src p], wb := base', wc := c' } := ⟨_, rfl⟩
      have e2 : setL (setL cs off x1.cells) (off + 65) (denL [] [.raw (.slice base' (x1.wait.length + 1) c')]) = setL cs off x2.cells := by
        show setL (setL cs off x1.cells) (off + (65 + 0)) [.slice base' (x1.wait.length + 1) c'] = _
        rw [hc1.setL (by rw [hlen1]; simp) x1.ne, x1.set_tail x2 hof1 (by rw [hx2]) (by rw [hx2]) 0 _ (by simp) (by rw [hx2]; simp [setL]), setL_setL (by omega) (by rw [hlen1, x2.len (by rw [hx2]; exact hof1)])]
      refine Go.run mixed 300 [] rfl ?_
      refine Ok.eq (r' := Res.need [fun x ↦ Value.one (Value.slice base' (List.length (Lis.wait (LisM.toLis x1)) + 1) c') = true, fun x ↦ off + 65 + 1 ≤ List.length (setL cs off (LisM.cells x1))] (Res.leave Leave.ret { stk := [It.code [1, 1, 1, 1, 1, 1, 1, 1]], fr := [(8, LV.cst (Value.bool true)), (10, LV.bool (nextOk s p)), (9, LV.int IntKind.u16 (nextN s p)), (6, LV.ptr 1 0), (0, LV.ptr 0 off), (1, LV.int IntKind.i64 (↑src : Int)), (2, LV.agg [LV.bool (Pkt.marker p), LV.int IntKind.u8 (Pkt.kind p), LV.int IntKind.u16 (Pkt.seq p), LV.int IntKind.u32 (Pkt.stamp p), LV.int IntKind.u32 (Pkt.source p), LV.raw (Value.slice (Pkt.db p) (Pkt.dn p) (Pkt.dc p))]), (3, LV.int IntKind.i64 room)], H := [(1, LO.lay [LV.bool (Pkt.marker p), LV.int IntKind.u8 (Pkt.kind p), LV.int IntKind.u16 (nextN s p), LV.int IntKind.u32 (Pkt.stamp p), LV.int IntKind.u32 (IntKind.wrap IntKind.u32 (IntKind.wrap IntKind.u32 (↑src : Int) + (1 : Int))), LV.raw (Value.slice (Pkt.db p) (Pkt.dn p) (Pkt.dc p))] 33), (0, LO.arr (setL (setL cs off (LisM.cells x1)) (off + 65) (denL [] [LV.raw (Value.slice base' (List.length (Lis.wait (LisM.toLis x1)) + 1) c')])) 55)], nx := 3, orc := [] })) (by kernel_rfl) ?_
      refine ⟨⟨rfl, by rw [setL_length]; omega, trivial⟩, leave_ok (fun _ => nofun) rfl fun w hs => ⟨x2, ?_, ?_, ?_⟩⟩
      · have hyes' : (x.wait.length : Int) < room := by simpa using hyes
        simp [handL, hok, hyes', hx2, hx1]
      · simp [den, handOk, hok, hyes]
      · rw [← e2]
        have own2 : x2.ownW = own 33 6 base' (x1.wait.length + 1) c' (x1.wait.flatMap Pkt.cells ++ (handPk s src p).cells) := by rw [hx2]; simp [LisM.ownW]
        rw [own2]
        refine Sat.right (p := pt b2 (.cells (handPk s src p).cells.toArray 33)) (Sat.right (p := pt b1 (.cells (handPk s src p).cells.toArray 33)) (hs.eq ?_))
        simp [satH, atom, denO, bk, mul_one, denL, den, Pkt.cells, handPk, star_assoc]; ac_rfl

end Go.Proofs.Ytaobahddincaiaa
