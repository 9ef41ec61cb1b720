/- Layer 20: 'Hear', walked. -/
import Derived.Test.YtaobahddincaiaaA4
namespace Go.Proofs.Ytaobahddincaiaa
open Go Go.E Go.Proofs

/-! What is said of packets and listeners, without where they lie -/
structure PktA where
  marker : Bool
  kind : Int
  seq : Int
  stamp : Int
  source : Int
  bytes : List Value
def Pkt.abs (p : Pkt) : PktA := ⟨p.marker, p.kind, p.seq, p.stamp, p.source, p.bytes⟩
structure LisA where
  listens : Bool
  of : List Spk
  wait : List PktA
  lost : Int
def Lis.abs (x : Lis) : LisA := ⟨x.listens, x.of, x.wait.map Pkt.abs, x.lost⟩
def nextNA (s : Spk) (p : PktA) : Int :=
  if s.known then (if s.source = p.source then IntKind.u16.wrap (IntKind.u16.wrap (s.new + p.seq) - s.own) else IntKind.u16.wrap (s.new + 1)) else 0
def nextOkA (s : Spk) (p : PktA) : Bool :=
  if s.known then (if s.source = p.source then less16 s.own p.seq else true) else true
def handPkA (s : Spk) (src : Nat) (p : PktA) : PktA := { p with seq := nextNA s p, source := IntKind.u32.wrap (IntKind.u32.wrap src + 1) }
def handOkA (x : LisA) (s : Spk) (p : PktA) (room : Int) : Bool := x.listens && nextOkA s p && decide ((x.wait.length : Int) < room)
def handA (x : LisA) (src : Nat) (s : Spk) (p : PktA) (room : Int) : LisA :=
  if x.listens && nextOkA s p then
    (if (x.wait.length : Int) < room then { x with of := x.of.set src ⟨true, p.source, p.seq, nextNA s p⟩, wait := x.wait ++ [handPkA s src p] }
     else { x with of := x.of.set src ⟨true, p.source, p.seq, nextNA s p⟩, lost := IntKind.i64.wrap (x.lost + 1) })
  else x
theorem handL_abs (x : Lis) (src : Nat) (s : Spk) (p : Pkt) (room : Int) : (handL x src s p room).abs = handA x.abs src s p.abs room := by
  unfold handL handA
  have e1 : nextOkA s p.abs = nextOk s p := rfl
  have e2 : (x.abs).listens = x.listens := rfl
  have e3 : (x.abs).wait.length = x.wait.length := by simp [Lis.abs]
  rw [e1, e2, e3]
  split
  · split
    · simp only [Lis.abs, List.map_append, List.map_cons, List.map_nil]; rfl
    · rfl
  · rfl
theorem handOk_abs (x : Lis) (s : Spk) (p : Pkt) (room : Int) : handOk x s p room = handOkA x.abs s p.abs room := by
  have e3 : (x.abs).wait.length = x.wait.length := by simp [Lis.abs]
  unfold handOk handOkA
  rw [e3]; rfl

def hearStep (party : Nat) (p : PktA) (room : Int) (acc : Int × List LisA) (k : Nat) : Int × List LisA :=
  if k = party then acc else
  match acc.2[k]? with
  | none => acc
  | some x => match x.of[party]? with
    | none => acc
    | some s => (if handOkA x s p room then IntKind.i64.wrap (acc.1 + 1) else acc.1, acc.2.set k (handA x party s p room))
def hearTo (party : Nat) (p : PktA) (room : Int) (ls : List LisA) (n : Nat) : Int × List LisA := (List.range n).foldl (hearStep party p room) (0, ls)

def abss (ls : List LisM) : List LisA := ls.map fun x => x.toLis.abs

theorem hearTo_self {party : Nat} {p : PktA} {room : Int} {ls : List LisA} : hearTo party p room ls (party + 1) = hearTo party p room ls party := by
  simp [hearTo, List.range_succ, hearStep]
theorem hearTo_next {party : Nat} {p : PktA} {room : Int} {ls : List LisA} {k : Nat} {x : LisA} {s : Spk} (hk : k ≠ party) (hx : (hearTo party p room ls k).2[k]? = some x) (hs : x.of[party]? = some s) :
    hearTo party p room ls (k + 1) = (if handOkA x s p room then IntKind.i64.wrap ((hearTo party p room ls k).1 + 1) else (hearTo party p room ls k).1, (hearTo party p room ls k).2.set k (handA x party s p room)) := by
  have e : hearTo party p room ls (k + 1) = hearStep party p room (hearTo party p room ls k) k := by simp [hearTo, List.range_succ]
  rw [e]
  unfold hearStep
  rw [if_neg hk, hx]
  simp only [hs]

/-- A packet with its octets elsewhere. -/
def rePk (p : Pkt) (d : Option Addr) (c : Nat) : Pkt := { p with db := d, dc := c }

/-- Where the loop stands. -/
structure HearI (ls : List LisM) (party : Nat) (p : Pkt) (room : Int) where
  k : Nat
  ls' : List LisM
  d : Option Addr
  c : Nat
  hk : k ≤ ls.length
  len : ls'.length = ls.length
  wf : Wf ls'
  wt : ∀ y ∈ ls', y.wait.length ≤ 1000 + k
  acc : abss ls' = (hearTo party p.abs room (abss ls) k).2

set_option maxRecDepth 100000 in
set_option maxHeartbeats 1000000 in
theorem hear_spec (bf bl : Nat) (room : Int) (ls : List LisM) (hwf : Wf ls) (party : Nat) (x : LisM) (hk : ls[party]? = some x) (hxl : x.listens = true) (p : Pkt) (hr : rightE p = 0) (hp16 : party < 16) (hn16 : ls.length ≤ 16)
    (hwt : ∀ y ∈ ls, y.wait.length ≤ 1000) {w0 : World} {F : HP} {w : World} (hs : Sat w0 (fwd bf bl room ls * (p.hp * F)) w) :
    Calls Try.prog 8 #[.pointer (some ⟨bf, 0, none⟩), .int .i64 party, p.val] w fun e w' => ∃ ls', Wf ls' ∧ abss ls' = (hearTo party p.abs room (abss ls) ls.length).2 ∧ e = .returned (.tuple #[.int .i64 (hearTo party p.abs room (abss ls) ls.length).1, .int .i64 0]) ∧
      Sat w0 (fwd bf bl room ls' * (p.hp * F)) w' := by
  have hlt : party < ls.length := (List.getElem?_eq_some_iff.1 hk).1
  have hc : At (ls.flatMap LisM.cells) (67 * party) x.cells := flat_at hwf.cells hk
  have hx : x.of.length = 16 := hwf x (List.mem_of_getElem? hk)
  refine Calls.enter (cfg := cfg8 w0) (β := [bf, bl]) (H := [(0, .lay [.sl 1 0 ls.length ls.length, .int .i64 room] 47), (1, .arr (ls.flatMap LisM.cells) 55)]) (F := stars (ls.map LisM.hp) * (p.hp * F)) (l := [.ptr 0 0, .int .i64 party, p.lv]) Try.func8 rfl rfl (Nat.le_of_ble_eq_true rfl) rfl (hs.eq ?_) ?_
  · simp [satH, atom, denO, bk, mul_one, fwd, fwdBlock, denL, den, star_assoc]
  refine Go.run mixed 300 [] rfl ?_
  refine Ok.eq (r' := Res.need [fun x ↦ Value.one (Value.slice (Pkt.db p) (Pkt.dn p) (Pkt.dc p)) = true] (Res.new (Res.stop { stk := [It.reg [1, 0] [2, 3], It.code [1, 1]], fr := [(14, LV.int IntKind.i64 (↑party : Int)), (13, LV.ptr 0 0), (7, LV.int IntKind.i64 (0 : Int)), (6, LV.int IntKind.i64 (0 : Int)), (5, LV.ptr 2 0), (0, LV.ptr 0 0), (1, LV.int IntKind.i64 (↑party : Int)), (2, LV.agg [LV.bool (Pkt.marker p), LV.int IntKind.u8 (Pkt.kind p), LV.int IntKind.u16 (Pkt.seq p), LV.int IntKind.u32 (Pkt.stamp p), LV.int IntKind.u32 (Pkt.source p), LV.raw (Value.slice (Pkt.db p) (Pkt.dn p) (Pkt.dc p))])], H := [(2, LO.lay [LV.bool (Pkt.marker p), LV.int IntKind.u8 (Pkt.kind p), LV.int IntKind.u16 (Pkt.seq p), LV.int IntKind.u32 (Pkt.stamp p), LV.int IntKind.u32 (Pkt.source p), LV.raw (Value.slice (Pkt.db p) (Pkt.dn p) (Pkt.dc p))] 33), (0, LO.lay [LV.sl 1 0 (List.length ls) (List.length ls), LV.int IntKind.i64 room] 47), (1, LO.arr (List.flatMap LisM.cells ls) 55)], nx := 3, orc := [] }))) (by kernel_rfl) ?_
  refine ⟨⟨rfl, trivial⟩, fun b5 _ => Go.call rfl rfl rfl rfl rfl fun w hs => ?_⟩
  refine (at_spec bf bl ls.length room party hlt (F := pt bl (.cells (ls.flatMap LisM.cells).toArray 55 (0, 0)) * (pt b5 (.cells p.cells.toArray 33) * (stars (ls.map LisM.hp) * (p.hp * F)))) (hs.eq ?_)).mono fun e w' he => ⟨_, he.1, ?_⟩
  · simp [satH, atom, denO, bk, mul_one, fwdBlock, denL, den, Pkt.cells, star_assoc]; ac_rfl
  refine After.keep (γ := []) (H' := [(2, .lay [.bool p.marker, .int .u8 p.kind, .int .u16 p.seq, .int .u32 p.stamp, .int .u32 p.source, .raw (.slice p.db p.dn p.dc)] 33), (0, .lay [.sl 1 0 ls.length ls.length, .int .i64 room] 47), (1, .arr (ls.flatMap LisM.cells) 55)]) (F' := stars (ls.map LisM.hp) * (p.hp * F)) (lv := .ptr 1 (party * 67)) rfl rfl rfl rfl (he.2.eq ?_) ?_
  · simp [satH, atom, denO, bk, mul_one, fwdBlock, denL, den, Pkt.cells, star_assoc]; ac_rfl
  refine Go.run mixed 300 [] rfl ?_
  refine Ok.eq (r' := Res.stop { stk := [It.reg [1, 1, 1, 0, 0] [1, 2], It.code [1, 1, 1, 0, 1], It.code [1, 1, 1, 1]], fr := [(18, LV.agg [LV.bool (Pkt.marker p), LV.int IntKind.u8 (Pkt.kind p), LV.int IntKind.u16 (Pkt.seq p), LV.int IntKind.u32 (Pkt.stamp p), LV.int IntKind.u32 (Pkt.source p), LV.raw (Value.slice (Pkt.db p) (Pkt.dn p) (Pkt.dc p))]), (8, LV.ptr 1 (party * 67)), (7, LV.int IntKind.i64 (0 : Int)), (6, LV.int IntKind.i64 (0 : Int)), (5, LV.ptr 2 0), (0, LV.ptr 0 0), (1, LV.int IntKind.i64 (↑party : Int)), (2, LV.agg [LV.bool (Pkt.marker p), LV.int IntKind.u8 (Pkt.kind p), LV.int IntKind.u16 (Pkt.seq p), LV.int IntKind.u32 (Pkt.stamp p), LV.int IntKind.u32 (Pkt.source p), LV.raw (Value.slice (Pkt.db p) (Pkt.dn p) (Pkt.dc p))])], H := [(2, LO.lay [LV.bool (Pkt.marker p), LV.int IntKind.u8 (Pkt.kind p), LV.int IntKind.u16 (Pkt.seq p), LV.int IntKind.u32 (Pkt.stamp p), LV.int IntKind.u32 (Pkt.source p), LV.raw (Value.slice (Pkt.db p) (Pkt.dn p) (Pkt.dc p))] 33), (0, LO.lay [LV.sl 1 0 (List.length ls) (List.length ls), LV.int IntKind.i64 room] 47), (1, LO.arr (List.flatMap LisM.cells ls) 55)], nx := 3, orc := [] }) (by kernel_rfl) ?_
  refine fun _ => Go.call rfl rfl rfl rfl rfl fun w hs => ?_
  refine (right_spec p hs).mono fun e w' he => ⟨_, he.1, After.keep (γ := []) (lv := .int .i64 0) (by rw [hr]; rfl) rfl rfl rfl he.2 ?_⟩
  refine Go.run mixed 300 [.cst (.bool true)] rfl ?_
  refine Ok.eq (r' := Res.ite false (Res.leave Leave.ret { stk := [It.code [1, 1, 1, 0, 1, 1, 0, 1], It.code [1, 1, 1, 1]], fr := [(7, LV.int IntKind.i64 (0 : Int)), (6, LV.int IntKind.i64 (0 : Int)), (9, LV.int IntKind.i64 (0 : Int)), (8, LV.ptr 1 (party * 67)), (5, LV.ptr 2 0), (0, LV.ptr 0 0), (1, LV.int IntKind.i64 (↑party : Int)), (2, LV.agg [LV.bool (Pkt.marker p), LV.int IntKind.u8 (Pkt.kind p), LV.int IntKind.u16 (Pkt.seq p), LV.int IntKind.u32 (Pkt.stamp p), LV.int IntKind.u32 (Pkt.source p), LV.raw (Value.slice (Pkt.db p) (Pkt.dn p) (Pkt.dc p))])], H := [(2, LO.lay [LV.bool (Pkt.marker p), LV.int IntKind.u8 (Pkt.kind p), LV.int IntKind.u16 (Pkt.seq p), LV.int IntKind.u32 (Pkt.stamp p), LV.int IntKind.u32 (Pkt.source p), LV.raw (Value.slice (Pkt.db p) (Pkt.dn p) (Pkt.dc p))] 33), (0, LO.lay [LV.sl 1 0 (List.length ls) (List.length ls), LV.int IntKind.i64 room] 47), (1, LO.arr (List.flatMap LisM.cells ls) 55)], nx := 3, orc := [LV.cst (Value.bool true)] }) (Res.need [fun β ↦ (fun x j ↦ (List.flatMap LisM.cells ls)[j]?) β (party * 67 + 0) = some (den β (LV.cst (Value.bool true)))] (Res.stop { stk := [It.code [1, 1, 1, 1, 1, 1, 1, 0, 1, 0], It.blk 0, It.code [1, 1, 1, 1, 1, 1, 1, 1]], fr := [(35, LV.int IntKind.i64 (0 : Int)), (34, LV.int IntKind.i64 (↑(List.length ls) : Int)), (11, LV.raw (Value.slice (Pkt.db p) (Pkt.dn p) (Pkt.dc p))), (10, LV.int IntKind.i64 (0 : Int)), (9, LV.int IntKind.i64 (0 : Int)), (8, LV.ptr 1 (party * 67)), (7, LV.int IntKind.i64 (0 : Int)), (6, LV.int IntKind.i64 (0 : Int)), (5, LV.ptr 2 0), (0, LV.ptr 0 0), (1, LV.int IntKind.i64 (↑party : Int)), (2, LV.agg [LV.bool (Pkt.marker p), LV.int IntKind.u8 (Pkt.kind p), LV.int IntKind.u16 (Pkt.seq p), LV.int IntKind.u32 (Pkt.stamp p), LV.int IntKind.u32 (Pkt.source p), LV.raw (Value.slice (Pkt.db p) (Pkt.dn p) (Pkt.dc p))])], H := [(2, LO.lay [LV.bool (Pkt.marker p), LV.int IntKind.u8 (Pkt.kind p), LV.int IntKind.u16 (Pkt.seq p), LV.int IntKind.u32 (Pkt.stamp p), LV.int IntKind.u32 (Pkt.source p), LV.raw (Value.slice (Pkt.db p) (Pkt.dn p) (Pkt.dc p))] 33), (0, LO.lay [LV.sl 1 0 (List.length ls) (List.length ls), LV.int IntKind.i64 room] 47), (1, LO.arr (List.flatMap LisM.cells ls) 55)], nx := 3, orc := [] }))) (by kernel_rfl) ?_
  refine ⟨fun h => by simp at h, fun _ => ⟨⟨?_, trivial⟩, ?_⟩⟩
  · have := hc.get (j := 0) (v := .bool x.listens) rfl
    rw [hxl, show 67 * party + 0 = party * 67 + 0 by omega] at this
    exact this
  refine fun _ => Go.loop (ι := HearI ls party p room) (fun i => (stars (i.ls'.map LisM.hp) * (p.hp * F), [bf, bl, b5],
    [(35, .int .i64 i.k), (34, .int .i64 ls.length), (11, .raw (.slice p.db p.dn p.dc)), (10, .int .i64 (hearTo party p.abs room (abss ls) i.k).1), (5, .ptr 2 0), (0, .ptr 0 0), (1, .int .i64 party)],
    [(2, .lay [.bool p.marker, .int .u8 p.kind, .int .u16 p.seq, .int .u32 p.stamp, .int .u32 p.source, .raw (.slice i.d p.dn i.c)] 33), (0, .lay [.sl 1 0 ls.length ls.length, .int .i64 room] 47), (1, .arr (i.ls'.flatMap LisM.cells) 55)]))
    (fun i => ls.length - i.k) rfl ⟨0, ls, p.db, p.dc, Nat.zero_le _, rfl, hwf, hwt, rfl⟩ (fun w hs => ⟨FrEq.of_all ⟨rfl, rfl, rfl, rfl, rfl, rfl, rfl, trivial⟩, rfl, hs⟩) ?_
  intro i rec
  have hdn : p.dn ≤ 1188 := by
    unfold rightE at hr
    split at hr
    · cases hr
    · split at hr
      · cases hr
      · omega
  dsimp only
  refine Go.run mixed 300 [] rfl ?_
  refine Ok.eq (r' := Res.ite (decide ((↑(HearI.k i) : Int) < (↑(List.length ls) : Int))) (Res.stop { stk := [It.reg [1, 1, 1, 1, 1, 1, 1, 0, 1, 0, 0, 1, 1, 0, 0, 1, 0] [1, 2, 3], It.code [1, 1, 1, 1, 1, 1, 1, 0, 1, 0, 0, 1, 1, 0, 0, 1, 1], It.blk 1, It.code [1, 1, 1, 1, 1, 1, 1, 0, 1, 0, 0, 1, 1, 1], It.lp [1, 1, 1, 1, 1, 1, 1, 0, 1, 0, 0], It.blk 0, It.code [1, 1, 1, 1, 1, 1, 1, 1]], fr := [(38, LV.raw (Value.slice (Pkt.db p) (Pkt.dn p) (Pkt.dc p))), (12, LV.int IntKind.i64 (↑(HearI.k i) : Int)), (35, LV.int IntKind.i64 (↑(HearI.k i) : Int)), (34, LV.int IntKind.i64 (↑(List.length ls) : Int)), (11, LV.raw (Value.slice (Pkt.db p) (Pkt.dn p) (Pkt.dc p))), (10, LV.int IntKind.i64 (Prod.fst (hearTo party (Pkt.abs p) room (abss ls) (HearI.k i)))), (5, LV.ptr 2 0), (0, LV.ptr 0 0), (1, LV.int IntKind.i64 (↑party : Int))], H := [(2, LO.lay [LV.bool (Pkt.marker p), LV.int IntKind.u8 (Pkt.kind p), LV.int IntKind.u16 (Pkt.seq p), LV.int IntKind.u32 (Pkt.stamp p), LV.int IntKind.u32 (Pkt.source p), LV.raw (Value.slice (HearI.d i) (Pkt.dn p) (HearI.c i))] 33), (0, LO.lay [LV.sl 1 0 (List.length ls) (List.length ls), LV.int IntKind.i64 room] 47), (1, LO.arr (List.flatMap LisM.cells (HearI.ls' i)) 55)], nx := 3, orc := [] }) (Res.leave Leave.ret { stk := [It.code [1, 1, 1, 1, 1, 1, 1, 1, 1]], fr := [(7, LV.int IntKind.i64 (0 : Int)), (6, LV.int IntKind.i64 (Prod.fst (hearTo party (Pkt.abs p) room (abss ls) (HearI.k i)))), (35, LV.int IntKind.i64 (↑(HearI.k i) : Int)), (34, LV.int IntKind.i64 (↑(List.length ls) : Int)), (11, LV.raw (Value.slice (Pkt.db p) (Pkt.dn p) (Pkt.dc p))), (10, LV.int IntKind.i64 (Prod.fst (hearTo party (Pkt.abs p) room (abss ls) (HearI.k i)))), (5, LV.ptr 2 0), (0, LV.ptr 0 0), (1, LV.int IntKind.i64 (↑party : Int))], H := [(2, LO.lay [LV.bool (Pkt.marker p), LV.int IntKind.u8 (Pkt.kind p), LV.int IntKind.u16 (Pkt.seq p), LV.int IntKind.u32 (Pkt.stamp p), LV.int IntKind.u32 (Pkt.source p), LV.raw (Value.slice (HearI.d i) (Pkt.dn p) (HearI.c i))] 33), (0, LO.lay [LV.sl 1 0 (List.length ls) (List.length ls), LV.int IntKind.i64 room] 47), (1, LO.arr (List.flatMap LisM.cells (HearI.ls' i)) 55)], nx := 3, orc := [] })) (by kernel_rfl) ?_
  refine ⟨fun hlk => ?_, fun hge => leave_ok (fun _ => nofun) rfl fun w hs => ⟨i.ls', i.wf, ?_, ?_, ?_⟩⟩
  · refine fun _ => Go.call rfl rfl rfl rfl rfl fun w hs => ?_
    refine (clone_spec p.db p.dn p.dc p.bytes (by omega) (F := satH w0 [bf, bl, b5] [(2, .lay [.bool p.marker, .int .u8 p.kind, .int .u16 p.seq, .int .u32 p.stamp, .int .u32 p.source, .raw (.slice i.d p.dn i.c)] 33), (0, .lay [.sl 1 0 ls.length ls.length, .int .i64 room] 47), (1, .arr (i.ls'.flatMap LisM.cells) 55)] * (stars (i.ls'.map LisM.hp) * F)) (hs.eq ?_)).mono fun e w' ⟨base', c', he1, he2⟩ => ⟨_, he1, ?_⟩
    · rw [show own 5 1 p.db p.dn p.dc p.bytes = p.hp from rfl]
      show satH w0 [bf, bl, b5] _ * _ = _
      ac_rfl
    refine After.keep (γ := []) (H' := [(2, .lay [.bool p.marker, .int .u8 p.kind, .int .u16 p.seq, .int .u32 p.stamp, .int .u32 p.source, .raw (.slice i.d p.dn i.c)] 33), (0, .lay [.sl 1 0 ls.length ls.length, .int .i64 room] 47), (1, .arr (i.ls'.flatMap LisM.cells) 55)])
      (F' := own 5 1 base' p.dn c' p.bytes * (stars (i.ls'.map LisM.hp) * (p.hp * F))) (lv := .raw (.slice base' p.dn c')) rfl rfl rfl rfl (he2.eq ?_) ?_
    · rw [show own 5 1 p.db p.dn p.dc p.bytes = p.hp from rfl]
      show _ = satH w0 [bf, bl, b5] _ * _
      ac_rfl
    refine Go.runH mixed 300 [] [] [0, 2] rfl ?_
    refine Ok.eq (r' := Res.need [fun x ↦ Value.one (Value.slice base' (Pkt.dn p) c') = true] (Res.need [fun β ↦ ((↑(HearI.k i) : Int) != (↑party : Int)) = true → allP β [fun x ↦ (0 : Int) ≤ (↑(HearI.k i) : Int) ∧ (↑(HearI.k i) : Int) < (↑(List.length ls) : Int)]] (Res.ite ((↑(HearI.k i) : Int) != (↑party : Int)) (Res.stop { stk := [It.dop [1, 1, 1, 1, 1, 1, 1, 0, 1, 0, 0, 1, 1, 0, 0, 1, 1, 0] 65535 1 262143 [(2, LO.lay [LV.bool (Pkt.marker p), LV.int IntKind.u8 (Pkt.kind p), LV.int IntKind.u16 (Pkt.seq p), LV.int IntKind.u32 (Pkt.stamp p), LV.int IntKind.u32 (Pkt.source p), LV.raw (Value.slice base' (Pkt.dn p) c')] 33), (0, LO.lay [LV.sl 1 0 (List.length ls) (List.length ls), LV.int IntKind.i64 room] 47)] 16, It.code [1, 1, 1, 1, 1, 1, 1, 0, 1, 0, 0, 1, 1, 0, 0, 1, 1, 1], It.blk 1, It.code [1, 1, 1, 1, 1, 1, 1, 0, 1, 0, 0, 1, 1, 1], It.lp [1, 1, 1, 1, 1, 1, 1, 0, 1, 0, 0], It.blk 0, It.code [1, 1, 1, 1, 1, 1, 1, 1]], fr := [(44, LV.cst (Value.bool true)), (56, LV.int IntKind.i64 room), (55, LV.ptr 0 1), (54, LV.ptr 0 0), (53, LV.ptr 0 0), (52, LV.agg [LV.bool (Pkt.marker p), LV.int IntKind.u8 (Pkt.kind p), LV.int IntKind.u16 (Pkt.seq p), LV.int IntKind.u32 (Pkt.stamp p), LV.int IntKind.u32 (Pkt.source p), LV.raw (Value.slice base' (Pkt.dn p) c')]), (51, LV.int IntKind.i64 (↑party : Int)), (50, LV.ptr 1 (0 + Int.toNat (↑(HearI.k i) : Int) * 67)), (49, LV.int IntKind.i64 (↑(HearI.k i) : Int)), (48, LV.sl 1 0 (List.length ls) (List.length ls)), (47, LV.ptr 0 0), (46, LV.ptr 0 0), (45, LV.ptr 0 0), (43, LV.bool ((↑(HearI.k i) : Int) != (↑party : Int))), (42, LV.int IntKind.i64 (↑party : Int)), (41, LV.int IntKind.i64 (↑(HearI.k i) : Int)), (12, LV.int IntKind.i64 (↑(HearI.k i) : Int)), (35, LV.int IntKind.i64 (↑(HearI.k i) : Int)), (34, LV.int IntKind.i64 (↑(List.length ls) : Int)), (11, LV.raw (Value.slice (Pkt.db p) (Pkt.dn p) (Pkt.dc p))), (10, LV.int IntKind.i64 (Prod.fst (hearTo party (Pkt.abs p) room (abss ls) (HearI.k i)))), (5, LV.ptr 2 0), (0, LV.ptr 0 0), (1, LV.int IntKind.i64 (↑party : Int))], H := [(2, LO.lay [LV.bool (Pkt.marker p), LV.int IntKind.u8 (Pkt.kind p), LV.int IntKind.u16 (Pkt.seq p), LV.int IntKind.u32 (Pkt.stamp p), LV.int IntKind.u32 (Pkt.source p), LV.raw (Value.slice base' (Pkt.dn p) c')] 33), (0, LO.lay [LV.sl 1 0 (List.length ls) (List.length ls), LV.int IntKind.i64 room] 47), (1, LO.arr (List.flatMap LisM.cells (HearI.ls' i)) 55)], nx := 3, orc := [] }) (Res.stop { stk := [It.lp [1, 1, 1, 1, 1, 1, 1, 0, 1, 0, 0], It.blk 0, It.code [1, 1, 1, 1, 1, 1, 1, 1]], fr := [(35, LV.int IntKind.i64 (IntKind.wrap IntKind.i64 ((↑(HearI.k i) : Int) + (1 : Int)))), (12, LV.int IntKind.i64 (↑(HearI.k i) : Int)), (34, LV.int IntKind.i64 (↑(List.length ls) : Int)), (11, LV.raw (Value.slice (Pkt.db p) (Pkt.dn p) (Pkt.dc p))), (10, LV.int IntKind.i64 (Prod.fst (hearTo party (Pkt.abs p) room (abss ls) (HearI.k i)))), (5, LV.ptr 2 0), (0, LV.ptr 0 0), (1, LV.int IntKind.i64 (↑party : Int))], H := [(2, LO.lay [LV.bool (Pkt.marker p), LV.int IntKind.u8 (Pkt.kind p), LV.int IntKind.u16 (Pkt.seq p), LV.int IntKind.u32 (Pkt.stamp p), LV.int IntKind.u32 (Pkt.source p), LV.raw (Value.slice base' (Pkt.dn p) c')] 33), (0, LO.lay [LV.sl 1 0 (List.length ls) (List.length ls), LV.int IntKind.i64 room] 47), (1, LO.arr (List.flatMap LisM.cells (HearI.ls' i)) 55)], nx := 3, orc := [] })))) (by kernel_rfl) ?_
    have hkn : i.k < ls.length := by simpa using hlk
    have hwr : IntKind.i64.wrap ((i.k : Int) + 1) = ((i.k + 1 : Nat) : Int) := by rw [IntWalk.i64_in _ (by omega)]; omega
    refine ⟨⟨rfl, trivial⟩, ⟨fun _ => ⟨by omega, trivial⟩, trivial⟩, fun hkp => ?_, fun hkp => ?_⟩
    · have hkp' : i.k ≠ party := by intro h; rw [h] at hkp; simp at hkp
      obtain ⟨y, hy⟩ : ∃ y, i.ls'[i.k]? = some y := ⟨_, List.getElem?_eq_getElem (by rw [i.len]; exact hkn)⟩
      have hyo : y.of.length = 16 := i.wf y (List.mem_of_getElem? hy)
      obtain ⟨s, hsp⟩ : ∃ s, y.of[party]? = some s := ⟨_, List.getElem?_eq_getElem (by rw [hyo]; exact hp16)⟩
      have hcy : At (i.ls'.flatMap LisM.cells) (0 + ((i.k : Nat) : Int).toNat * 67) y.cells := by
        have := flat_at i.wf.cells hy
        rwa [show 67 * i.k = 0 + ((i.k : Nat) : Int).toNat * 67 by omega] at this
      have hqa : (rePk p base' c').abs = p.abs := rfl
      refine fun _ => Go.callD rfl rfl rfl rfl rfl rfl rfl fun w hs => ?_
      have hyw : y.wait.length ≤ 100000 := by have := i.wt y (List.mem_of_getElem? hy); have := i.hk; omega
      have hq2 : (rePk p base' c').hp = own 5 1 base' p.dn c' p.bytes := rfl
      have hq3 : (rePk p base' c').cells = [.bool p.marker, .int .u8 p.kind, .int .u16 p.seq, .int .u32 p.stamp, .int .u32 p.source, .slice base' p.dn c'] := rfl
      have hstar : stars (i.ls'.map LisM.hp) = y.ownW * (stars (y.wait.map Pkt.hp) * stars ((i.ls'.map LisM.hp).eraseIdx i.k)) := by
        rw [stars_get (l := i.ls'.map LisM.hp) (k := i.k) (p := y.hp) (by simp [hy]), LisM.hp, star_assoc]
      refine (hand_spec y party s (rePk p base' c') room bl (0 + ((i.k : Nat) : Int).toNat * 67) (i.ls'.flatMap LisM.cells) hcy hyo hsp hyw (F := pt bf (fwdBlock bl ls.length room) * (pt b5 (.cells (rePk p base' c').cells.toArray 33) * ((rePk p base' c').hp * (stars (y.wait.map Pkt.hp) * (stars ((i.ls'.map LisM.hp).eraseIdx i.k) * (p.hp * F)))))) (hs.eq ?_)).mono fun e w' ⟨y', hy1, he1, he2⟩ => ⟨_, he1, ?_⟩
      · rw [hstar, hq2, hq3]
        simp [satH, atom, denO, bk, mul_one, fwdBlock, denL, den, Pkt.cells, star_assoc]; ac_rfl
      have hyo' : y'.of.length = 16 := by
        have : y'.of = (handL y.toLis party s (rePk p base' c') room).of := by rw [← hy1]
        rw [this]; unfold handL; split
        · split <;> simp [hyo]
        · exact hyo
      have hset : setL (i.ls'.flatMap LisM.cells) (0 + ((i.k : Nat) : Int).toNat * 67) y'.cells = (i.ls'.set i.k y').flatMap LisM.cells := by
        rw [← flat_set i.wf.cells hy (y'.len hyo')]; congr 1; omega
      have hstar' : stars ((i.ls'.set i.k y').map LisM.hp) = y'.ownW * (stars (y'.wait.map Pkt.hp) * stars ((i.ls'.map LisM.hp).eraseIdx i.k)) := by
        rw [List.map_set, stars_set (by simp [i.len, hkn]), LisM.hp, star_assoc]
      have key : Sat w0 (satH w0 [bf, bl, b5] [(2, .lay [.bool p.marker, .int .u8 p.kind, .int .u16 p.seq, .int .u32 p.stamp, .int .u32 p.source, .raw (.slice base' p.dn c')] 33), (0, .lay [.sl 1 0 ls.length ls.length, .int .i64 room] 47), (1, .arr ((i.ls'.set i.k y').flatMap LisM.cells) 55)] * (stars ((i.ls'.set i.k y').map LisM.hp) * (p.hp * F))) w' := by
        rw [hset] at he2
        have hw2 : y'.wait = y.wait ++ [handPk s party (rePk p base' c')] ∨ y'.wait = y.wait := by
          have : y'.wait = (handL y.toLis party s (rePk p base' c') room).wait := by rw [← hy1]
          rw [this]; unfold handL; split
          · split
            · exact .inl rfl
            · exact .inr rfl
          · exact .inr rfl
        rw [hstar']
        rcases hw2 with hw2 | hw2
        · have e1 : stars (y'.wait.map Pkt.hp) = stars (y.wait.map Pkt.hp) * (rePk p base' c').hp := by
            rw [hw2, List.map_append, stars_append]
            simp only [List.map_cons, List.map_nil, stars, mul_one]; rfl
          rw [e1]
          refine he2.eq ?_
          rw [hq2, hq3]
          simp [satH, atom, denO, bk, mul_one, fwdBlock, denL, den, Pkt.cells, star_assoc]; ac_rfl
        · rw [hw2]
          refine Sat.right (p := (rePk p base' c').hp) (he2.eq ?_)
          rw [hq2, hq3]
          simp [satH, atom, denO, bk, mul_one, fwdBlock, denL, den, Pkt.cells, star_assoc]; ac_rfl
      refine ⟨[], [(2, .lay [.bool p.marker, .int .u8 p.kind, .int .u16 p.seq, .int .u32 p.stamp, .int .u32 p.source, .raw (.slice base' p.dn c')] 33), (0, .lay [.sl 1 0 ls.length ls.length, .int .i64 room] 47), (1, .arr ((i.ls'.set i.k y').flatMap LisM.cells) 55)], stars ((i.ls'.set i.k y').map LisM.hp) * (p.hp * F), .bool (handOk y.toLis s (rePk p base' c') room), rfl, rfl, key, (fun _ => Look.only (some [2, 0]) (HSat.look key)), ?_⟩
      have hab : abss i.ls' = (hearTo party p.abs room (abss ls) i.k).2 := i.acc
      have hya : (hearTo party p.abs room (abss ls) i.k).2[i.k]? = some y.abs := by rw [← hab]; simp [abss, hy]
      have hstep := hearTo_next hkp' hya (x := y.abs) (s := s) hsp
      have hnew : abss (i.ls'.set i.k y') = (hearTo party p.abs room (abss ls) (i.k + 1)).2 := by
        rw [hstep]
        show _ = (hearTo party p.abs room (abss ls) i.k).2.set i.k (handA y.abs party s p.abs room)
        rw [← hab, ← hqa, ← handL_abs, ← hy1]
        simp [abss, List.map_set]
      have hwf' : Wf (i.ls'.set i.k y') := fun z hz => by
        rcases List.mem_or_eq_of_mem_set hz with h | h
        · exact i.wf z h
        · rw [h]; exact hyo'
      have hwt' : ∀ z ∈ i.ls'.set i.k y', z.wait.length ≤ 1000 + (i.k + 1) := fun z hz => by
        rcases List.mem_or_eq_of_mem_set hz with h | h
        · have := i.wt z h; omega
        · rw [h]
          have : y'.wait = (handL y.toLis party s (rePk p base' c') room).wait := by rw [← hy1]
          rw [this]
          have := i.wt y (List.mem_of_getElem? hy)
          unfold handL; split
          · split
            · simp; omega
            · show y.wait.length ≤ _; omega
          · omega
      have hfst : (hearTo party p.abs room (abss ls) (i.k + 1)).1 = if handOk y.toLis s (rePk p base' c') room then IntKind.i64.wrap ((hearTo party p.abs room (abss ls) i.k).1 + 1) else (hearTo party p.abs room (abss ls) i.k).1 := by
        rw [hstep, handOk_abs, hqa]
      refine Go.run mixed 300 [] rfl ?_
      refine Ok.eq (r' := Res.ite (handOk (LisM.toLis y) s (rePk p base' c') room) (Res.stop { stk := [It.lp [1, 1, 1, 1, 1, 1, 1, 0, 1, 0, 0], It.blk 0, It.code [1, 1, 1, 1, 1, 1, 1, 1]], fr := [(35, LV.int IntKind.i64 (IntKind.wrap IntKind.i64 ((↑(HearI.k i) : Int) + (1 : Int)))), (10, LV.int IntKind.i64 (IntKind.wrap IntKind.i64 (Prod.fst (hearTo party (Pkt.abs p) room (abss ls) (HearI.k i)) + (1 : Int)))), (12, LV.int IntKind.i64 (↑(HearI.k i) : Int)), (34, LV.int IntKind.i64 (↑(List.length ls) : Int)), (11, LV.raw (Value.slice (Pkt.db p) (Pkt.dn p) (Pkt.dc p))), (5, LV.ptr 2 0), (0, LV.ptr 0 0), (1, LV.int IntKind.i64 (↑party : Int))], H := [(2, LO.lay [LV.bool (Pkt.marker p), LV.int IntKind.u8 (Pkt.kind p), LV.int IntKind.u16 (Pkt.seq p), LV.int IntKind.u32 (Pkt.stamp p), LV.int IntKind.u32 (Pkt.source p), LV.raw (Value.slice base' (Pkt.dn p) c')] 33), (0, LO.lay [LV.sl 1 0 (List.length ls) (List.length ls), LV.int IntKind.i64 room] 47), (1, LO.arr (List.flatMap LisM.cells (List.set (HearI.ls' i) (HearI.k i) y')) 55)], nx := 3, orc := [] }) (Res.stop { stk := [It.lp [1, 1, 1, 1, 1, 1, 1, 0, 1, 0, 0], It.blk 0, It.code [1, 1, 1, 1, 1, 1, 1, 1]], fr := [(35, LV.int IntKind.i64 (IntKind.wrap IntKind.i64 ((↑(HearI.k i) : Int) + (1 : Int)))), (12, LV.int IntKind.i64 (↑(HearI.k i) : Int)), (34, LV.int IntKind.i64 (↑(List.length ls) : Int)), (11, LV.raw (Value.slice (Pkt.db p) (Pkt.dn p) (Pkt.dc p))), (10, LV.int IntKind.i64 (Prod.fst (hearTo party (Pkt.abs p) room (abss ls) (HearI.k i)))), (5, LV.ptr 2 0), (0, LV.ptr 0 0), (1, LV.int IntKind.i64 (↑party : Int))], H := [(2, LO.lay [LV.bool (Pkt.marker p), LV.int IntKind.u8 (Pkt.kind p), LV.int IntKind.u16 (Pkt.seq p), LV.int IntKind.u32 (Pkt.stamp p), LV.int IntKind.u32 (Pkt.source p), LV.raw (Value.slice base' (Pkt.dn p) c')] 33), (0, LO.lay [LV.sl 1 0 (List.length ls) (List.length ls), LV.int IntKind.i64 room] 47), (1, LO.arr (List.flatMap LisM.cells (List.set (HearI.ls' i) (HearI.k i) y')) 55)], nx := 3, orc := [] })) (by kernel_rfl) ?_
      have hlen' : (i.ls'.set i.k y').length = ls.length := by rw [List.length_set]; exact i.len
      have hrec := rec ⟨i.k + 1, i.ls'.set i.k y', base', c', hkn, hlen', hwf', hwt', hnew⟩ (by show ls.length - (i.k + 1) < ls.length - i.k; omega)
      refine ⟨fun hok => fun _ => Go.again hrec (fun _ => rfl) fun w hs => ⟨⟨congrArg (Value.int .i64) hwr.symm, rfl, rfl, congrArg (Value.int .i64) (by rw [hfst, if_pos hok]), rfl, rfl, rfl, trivial⟩, rfl, hs⟩,
        fun hok => fun _ => Go.again hrec (fun _ => rfl) fun w hs => ⟨⟨congrArg (Value.int .i64) hwr.symm, rfl, rfl, congrArg (Value.int .i64) (by rw [hfst, if_neg (by rw [hok]; simp)]), rfl, rfl, rfl, trivial⟩, rfl, hs⟩⟩
    · have hkp' : i.k = party := by simp at hkp; omega
      have hself : hearTo party p.abs room (abss ls) (i.k + 1) = hearTo party p.abs room (abss ls) i.k := by rw [hkp']; exact hearTo_self
      have hrec := rec ⟨i.k + 1, i.ls', base', c', hkn, i.len, i.wf, fun z hz => by have := i.wt z hz; omega, by rw [hself]; exact i.acc⟩ (by show ls.length - (i.k + 1) < ls.length - i.k; omega)
      refine fun _ => Go.again hrec (fun _ => rfl) fun w hs => ⟨⟨congrArg (Value.int .i64) hwr.symm, rfl, rfl, congrArg (Value.int .i64) (by rw [hself]), rfl, rfl, rfl, trivial⟩, rfl, ?_⟩
      exact Sat.right (p := own 5 1 base' p.dn c' p.bytes) (hs.eq (star_left _ _ _))
  · have e : i.k = ls.length := by have := i.hk; simp at hge; omega
    rw [← e]; exact i.acc
  · have e : i.k = ls.length := by have := i.hk; simp at hge; omega
    rw [← e]; rfl
  · unfold fwd
    rw [i.len]
    refine Sat.right (p := pt b5 (.cells (rePk p i.d i.c).cells.toArray 33)) (hs.eq ?_)
    simp [satH, atom, denO, bk, mul_one, fwdBlock, denL, den, Pkt.cells, rePk, star_assoc]

end Go.Proofs.Ytaobahddincaiaa
