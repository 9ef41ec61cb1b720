/- Layer 13: SplitWholes: 'few' and 'Few', walked; chunks that came in, opened. -/
import Derived.Test.YtlgggljlegpaoaaA8
namespace Go.Proofs.Ytlgggljlegpaoaa
open Go Go.E Go.Proofs Go.ChangeShapes Go.WideShapes Go.ChangeAt Go.RowKit

structure Par where
  kind : Int
  b : Option Addr
  n : Nat
  c : Nat
def Par.cells (p : Par) : List Value := [.int .u16 p.kind, .slice p.b p.n p.c]
def noPar : Par := ⟨0, none, 0, 0⟩

/-- A chunk that came in. -/
structure Chk.In (w : World) (c : Chk) : Prop where
  s7 : ∃ b n k, c.r7 = .slice b n k
  s8 : ∃ b n k, c.r8 = .slice b n k
  s9 : ∃ b n k, c.r9 = .slice b n k
  s10 : ∃ b k, ∃ ps : List Par, c.r10 = .slice b ps.length k ∧ Rd w b (ps.flatMap Par.cells) ∧ ps.length ≤ 9223372036854775807
  kind : 0 ≤ c.kind ∧ c.kind ≤ 255
  flags : 0 ≤ c.flags ∧ c.flags ≤ 255
  rd : Rd w c.db (c.bytes.map (Value.int .u8))
  len : c.bytes.length = c.dn
  nil : c.db = none → c.dn = 0
theorem Chk.In.sat {w w' : World} {c : Chk} {F : HP} (h : c.In w) (hs : Sat w F w') : c.In w' := by
  obtain ⟨s7, s8, s9, ⟨b, k, ps, h1, h2, h3⟩, k1, k2, h4, h5, h6⟩ := h
  exact ⟨s7, s8, s9, ⟨b, k, ps, h1, h2.sat hs, h3⟩, k1, k2, h4.sat hs, h5, h6⟩
theorem Chk.In.ones {w : World} {c : Chk} (h : c.In w) : c.ones := by
  obtain ⟨⟨_, _, _, h7⟩, ⟨_, _, _, h8⟩, ⟨_, _, _, h9⟩, ⟨_, _, _, h10, _⟩, _⟩ := h
  exact ⟨by rw [h7]; rfl, by rw [h8]; rfl, by rw [h9]; rfl, by rw [h10]; rfl⟩
theorem Chk.In.ok {w : World} {c : Chk} (h : c.In w) (hs : c.dn ≤ 2000) : c.Ok w := ⟨h.ones, h.rd, h.len, h.nil, hs⟩

theorem rows_cell {α : Type} {g : α → List Value} {n : Nat} {l : List α} (hg : ∀ x ∈ l, (g x).length = n) {k : Nat} {x : α} (hk : l[k]? = some x) {j : Nat} {u : Value} (hj : (g x)[j]? = some u) : (l.flatMap g)[k * n + j]? = some u := by
  have hat := flat_at (g := g) (n := n) hg hk
  rw [Nat.mul_comm]; exact hat.get hj

set_option maxHeartbeats 400000 in
set_option maxRecDepth 100000 in
theorem few1_spec (c : Chk) (w : World) (h : c.In w) : Calls Try.prog 12 #[c.val] w fun e w' => ∃ r, e = .returned (.bool r) ∧ (r = true → c.dn ≤ 2000) ∧ Sat w 1 w' := by
  obtain ⟨kind, flags, a, b, out, inn, ppid, r7, r8, r9, r10, db, dn, dc, bytes⟩ := c
  obtain ⟨⟨b7, n7, k7, h7⟩, ⟨b8, n8, k8, h8⟩, ⟨b9, n9, k9, h9⟩, ⟨b10, k10, ps, h10, hrd, hps⟩, _, _, _, _, _⟩ := h
  dsimp only at h7 h8 h9 h10
  subst h7 h8 h9 h10
  refine Calls.enter (cfg := cfg12 w) (β := []) (H := []) (F := 1) (l := [.agg [.int .u8 kind, .int .u8 flags, .int .u32 a, .int .u32 b, .int .u16 out, .int .u16 inn, .int .u32 ppid, .raw (.slice b7 n7 k7), .raw (.slice b8 n8 k8), .raw (.slice b9 n9 k9), .raw (.slice b10 ps.length k10), .raw (.slice db dn dc)]]) Try.func12 rfl rfl (Nat.le_of_ble_eq_true rfl) rfl ((Sat.refl w).eq (one_mul 1).symm) ?_
  refine Go.run mixed 300 [] rfl ?_
  refine Ok.eq (r' := Res.need [fun x ↦ Value.one (Value.slice b7 n7 k7) = true, fun x ↦ Value.one (Value.slice b8 n8 k8) = true, fun x ↦ Value.one (Value.slice b9 n9 k9) = true, fun x ↦ Value.one (Value.slice b10 (List.length ps) k10) = true, fun x ↦ Value.one (Value.slice db dn dc) = true] (Res.new (Res.ite (decide ((↑n7 : Int) > (100 : Int)) || decide ((↑n8 : Int) > (100 : Int)) || decide ((↑n9 : Int) > (100 : Int)) || decide ((↑(List.length ps) : Int) > (40 : Int)) || decide ((↑dn : Int) > (2000 : Int))) (Res.leave Leave.ret { stk := [It.code [1, 0, 1, 0, 1], It.code [1, 1]], fr := [(2, LV.cst (Value.bool false)), (1, LV.ptr 0 0), (0, LV.agg [LV.int IntKind.u8 kind, LV.int IntKind.u8 flags, LV.int IntKind.u32 a, LV.int IntKind.u32 b, LV.int IntKind.u16 out, LV.int IntKind.u16 inn, LV.int IntKind.u32 ppid, LV.raw (Value.slice b7 n7 k7), LV.raw (Value.slice b8 n8 k8), LV.raw (Value.slice b9 n9 k9), LV.raw (Value.slice b10 (List.length ps) k10), LV.raw (Value.slice db dn dc)])], H := [(0, LO.lay [LV.int IntKind.u8 kind, LV.int IntKind.u8 flags, LV.int IntKind.u32 a, LV.int IntKind.u32 b, LV.int IntKind.u16 out, LV.int IntKind.u16 inn, LV.int IntKind.u32 ppid, LV.raw (Value.slice b7 n7 k7), LV.raw (Value.slice b8 n8 k8), LV.raw (Value.slice b9 n9 k9), LV.raw (Value.slice b10 (List.length ps) k10), LV.raw (Value.slice db dn dc)] 39)], nx := 1, orc := [] }) (Res.stop { stk := [It.code [1, 1, 0, 1, 0], It.blk 0, It.code [1, 1, 1]], fr := [(3, LV.int IntKind.i64 (0 : Int)), (2, LV.cst (Value.bool false)), (1, LV.ptr 0 0), (0, LV.agg [LV.int IntKind.u8 kind, LV.int IntKind.u8 flags, LV.int IntKind.u32 a, LV.int IntKind.u32 b, LV.int IntKind.u16 out, LV.int IntKind.u16 inn, LV.int IntKind.u32 ppid, LV.raw (Value.slice b7 n7 k7), LV.raw (Value.slice b8 n8 k8), LV.raw (Value.slice b9 n9 k9), LV.raw (Value.slice b10 (List.length ps) k10), LV.raw (Value.slice db dn dc)])], H := [(0, LO.lay [LV.int IntKind.u8 kind, LV.int IntKind.u8 flags, LV.int IntKind.u32 a, LV.int IntKind.u32 b, LV.int IntKind.u16 out, LV.int IntKind.u16 inn, LV.int IntKind.u32 ppid, LV.raw (Value.slice b7 n7 k7), LV.raw (Value.slice b8 n8 k8), LV.raw (Value.slice b9 n9 k9), LV.raw (Value.slice b10 (List.length ps) k10), LV.raw (Value.slice db dn dc)] 39)], nx := 1, orc := [] })))) (by kernel_rfl) ?_
  refine ⟨⟨rfl, rfl, rfl, rfl, rfl, trivial⟩, fun b0 => ⟨fun _ => leave_ok (fun _ => nofun) rfl fun w hs => ⟨false, rfl, nofun, hs.right⟩, fun hno => ?_⟩⟩
  have hdn : dn ≤ 2000 := by simp at hno; omega
  have hp40 : ps.length ≤ 40 := by simp at hno; omega
  refine fun _ => Go.loop (ι := Nat) (fun i => (1, [b0], [(3, .int .i64 i), (2, .cst (.bool false)), (1, .ptr 0 0)], [(0, .lay [.int .u8 kind, .int .u8 flags, .int .u32 a, .int .u32 b, .int .u16 out, .int .u16 inn, .int .u32 ppid, .raw (.slice b7 n7 k7), .raw (.slice b8 n8 k8), .raw (.slice b9 n9 k9), .raw (.slice b10 ps.length k10), .raw (.slice db dn dc)] 39)])) (fun i => ps.length - i) rfl 0 (fun w hs => ⟨FrEq.of_all ⟨rfl, rfl, rfl, trivial⟩, rfl, hs⟩) ?_
  intro i rec
  dsimp only
  obtain ⟨p, hp⟩ : ∃ p, p = ps.getD i noPar := ⟨_, rfl⟩
  refine Go.run mixed 300 [.raw (.slice p.b p.n p.c)] rfl ?_
  refine Ok.eq (r' := Res.ite (decide ((↑i : Int) < (↑(List.length ps) : Int))) (Res.need [fun x ↦ (0 : Int) ≤ (↑i : Int) ∧ (↑i : Int) < (↑(List.length ps) : Int) ∧ Option.isSome b10 = true] (Res.need [fun β ↦ (fun x j ↦ aCell (Cfg.w0 (cfg12 w)) (Addr.add (adr b10 (Int.toNat (↑i : Int) * 2)) 1) j) β 0 = some (den β (LV.raw (Value.slice (Par.b p) (Par.n p) (Par.c p))))] (Res.ite (decide ((↑(Par.n p) : Int) > (1300 : Int))) (Res.leave Leave.ret { stk := [It.code [1, 1, 0, 1, 0, 0, 1, 0, 0, 1, 0, 1], It.blk 1, It.code [1, 1, 0, 1, 0, 0, 1, 1], It.lp [1, 1, 0, 1, 0, 0], It.blk 0, It.code [1, 1, 1]], fr := [(2, LV.cst (Value.bool false)), (3, LV.int IntKind.i64 (↑i : Int)), (1, LV.ptr 0 0)], H := [(0, LO.lay [LV.int IntKind.u8 kind, LV.int IntKind.u8 flags, LV.int IntKind.u32 a, LV.int IntKind.u32 b, LV.int IntKind.u16 out, LV.int IntKind.u16 inn, LV.int IntKind.u32 ppid, LV.raw (Value.slice b7 n7 k7), LV.raw (Value.slice b8 n8 k8), LV.raw (Value.slice b9 n9 k9), LV.raw (Value.slice b10 (List.length ps) k10), LV.raw (Value.slice db dn dc)] 39)], nx := 1, orc := [] }) (Res.stop { stk := [It.lp [1, 1, 0, 1, 0, 0], It.blk 0, It.code [1, 1, 1]], fr := [(3, LV.int IntKind.i64 (IntKind.wrap IntKind.i64 ((↑i : Int) + (1 : Int)))), (2, LV.cst (Value.bool false)), (1, LV.ptr 0 0)], H := [(0, LO.lay [LV.int IntKind.u8 kind, LV.int IntKind.u8 flags, LV.int IntKind.u32 a, LV.int IntKind.u32 b, LV.int IntKind.u16 out, LV.int IntKind.u16 inn, LV.int IntKind.u32 ppid, LV.raw (Value.slice b7 n7 k7), LV.raw (Value.slice b8 n8 k8), LV.raw (Value.slice b9 n9 k9), LV.raw (Value.slice b10 (List.length ps) k10), LV.raw (Value.slice db dn dc)] 39)], nx := 1, orc := [] })))) (Res.leave Leave.ret { stk := [It.code [1, 1, 1, 1]], fr := [(2, LV.cst (Value.bool true)), (3, LV.int IntKind.i64 (↑i : Int)), (1, LV.ptr 0 0)], H := [(0, LO.lay [LV.int IntKind.u8 kind, LV.int IntKind.u8 flags, LV.int IntKind.u32 a, LV.int IntKind.u32 b, LV.int IntKind.u16 out, LV.int IntKind.u16 inn, LV.int IntKind.u32 ppid, LV.raw (Value.slice b7 n7 k7), LV.raw (Value.slice b8 n8 k8), LV.raw (Value.slice b9 n9 k9), LV.raw (Value.slice b10 (List.length ps) k10), LV.raw (Value.slice db dn dc)] 39)], nx := 1, orc := [LV.raw (Value.slice (Par.b p) (Par.n p) (Par.c p))] })) (by kernel_rfl) ?_
  refine ⟨fun hlt => ?_, fun _ => leave_ok (fun _ => nofun) rfl fun w hs => ⟨true, rfl, fun _ => hdn, hs.right⟩⟩
  have hlt' : i < ps.length := by simp at hlt; omega
  have gp : ps[i]? = some p := hp ▸ getD_get hlt'
  have hc : (ps.flatMap Par.cells)[i * 2 + 1]? = some (.slice p.b p.n p.c) := rows_cell (n := 2) (fun _ _ => rfl) gp rfl
  have hwr : IntKind.i64.wrap ((i : Int) + 1) = ((i + 1 : Nat) : Int) := by rw [IntWalk.i64_in _ (by omega)]; omega
  have hrec := rec (i + 1) (by show ps.length - (i + 1) < ps.length - i; omega)
  rw [show ((i : Nat) : Int).toNat = i by omega]
  refine ⟨⟨⟨by omega, by omega, hrd.isSome hc⟩, trivial⟩, ⟨hrd.field hc, trivial⟩, fun _ => leave_ok (fun _ => nofun) rfl fun w hs => ⟨false, rfl, nofun, hs.right⟩, fun _ => fun _ => ?_⟩
  exact Go.again hrec (fun _ => rfl) fun w hs => ⟨⟨congrArg (Value.int .i64) hwr.symm, rfl, rfl, trivial⟩, rfl, hs⟩

theorem few_spec (base : Option Addr) (n c : Nat) (cs : List Chk) (w : World) (hn : cs.length = n) (hrd : Rd w base (cs.flatMap Chk.cells)) (hok : ∀ c ∈ cs, c.In w) :
    Calls Try.prog 11 #[.slice base n c] w fun e w' => ∃ r, e = .returned (.bool r) ∧ (r = true → n ≤ 80 ∧ ∀ c ∈ cs, c.dn ≤ 2000) ∧ Sat w 1 w' := by
  refine Calls.enter (cfg := cfg11 w) (β := []) (H := []) (F := 1) (l := [.raw (.slice base n c)]) Try.func11 rfl rfl (Nat.le_of_ble_eq_true rfl) rfl ((Sat.refl w).eq (one_mul 1).symm) ?_
  refine Go.run mixed 300 [] rfl ?_
  refine Ok.eq (r' := Res.ite (decide ((↑n : Int) > (80 : Int))) (Res.leave Leave.ret { stk := [It.code [1, 0, 1, 0, 1], It.code [1, 1]], fr := [(2, LV.cst (Value.bool false)), (0, LV.raw (Value.slice base n c))], H := [], nx := 0, orc := [] }) (Res.stop { stk := [It.code [1, 1, 0, 1, 0], It.blk 0, It.code [1, 1, 1]], fr := [(3, LV.int IntKind.i64 (0 : Int)), (2, LV.cst (Value.bool false)), (0, LV.raw (Value.slice base n c))], H := [], nx := 0, orc := [] })) (by kernel_rfl) ?_
  refine ⟨fun _ => leave_ok (fun _ => nofun) rfl fun w hs => ⟨false, rfl, nofun, hs.right⟩, fun hno => ?_⟩
  have h80 : n ≤ 80 := by simp at hno; omega
  refine fun _ => Go.loop (ι := { i : Nat // i ≤ n ∧ ∀ k, k < i → (cs.getD k noChk).dn ≤ 2000 }) (fun i => (1, [], [(3, .int .i64 i.1), (2, .cst (.bool false)), (0, .raw (.slice base n c))], [])) (fun i => n - i.1) rfl ⟨0, Nat.zero_le _, fun k hk => by omega⟩ (fun w hs => ⟨FrEq.of_all ⟨rfl, rfl, rfl, trivial⟩, rfl, hs⟩) ?_
  intro ⟨i, hi, hbe⟩ rec
  dsimp only
  obtain ⟨x, hx⟩ : ∃ x, x = cs.getD i noChk := ⟨_, rfl⟩
  refine Go.run mixed 300 [.agg x.lvL] rfl ?_
  refine Ok.eq (r' := Res.ite (decide ((↑i : Int) < (↑n : Int))) (Res.need [fun x ↦ (0 : Int) ≤ (↑i : Int) ∧ (↑i : Int) < (↑n : Int) ∧ Option.isSome base = true] (Res.need [fun β ↦ E.rowAt β ((fun x j ↦ aCell (Cfg.w0 (cfg11 w)) (adr base (Int.toNat (↑i : Int) * 12)) j) β) 0 (Chk.lvL x)] (Res.stop { stk := [It.reg [1, 1, 0, 1, 0, 0, 1, 0, 0, 0] [4, 5], It.code [1, 1, 0, 1, 0, 0, 1, 0, 0, 1], It.blk 1, It.code [1, 1, 0, 1, 0, 0, 1, 1], It.lp [1, 1, 0, 1, 0, 0], It.blk 0, It.code [1, 1, 1]], fr := [(16, LV.agg [LV.int IntKind.u8 (Chk.kind x), LV.int IntKind.u8 (Chk.flags x), LV.int IntKind.u32 (Chk.a x), LV.int IntKind.u32 (Chk.b x), LV.int IntKind.u16 (Chk.out x), LV.int IntKind.u16 (Chk.inn x), LV.int IntKind.u32 (Chk.ppid x), LV.raw (Chk.r7 x), LV.raw (Chk.r8 x), LV.raw (Chk.r9 x), LV.raw (Chk.r10 x), LV.raw (Value.slice (Chk.db x) (Chk.dn x) (Chk.dc x))]), (15, LV.raw (Value.pointer (some (adr base (Int.toNat (↑i : Int) * 12))))), (14, LV.int IntKind.i64 (↑i : Int)), (13, LV.raw (Value.slice base n c)), (3, LV.int IntKind.i64 (↑i : Int)), (2, LV.cst (Value.bool false)), (0, LV.raw (Value.slice base n c))], H := [], nx := 0, orc := [] }))) (Res.leave Leave.ret { stk := [It.code [1, 1, 1, 1]], fr := [(2, LV.cst (Value.bool true)), (3, LV.int IntKind.i64 (↑i : Int)), (0, LV.raw (Value.slice base n c))], H := [], nx := 0, orc := [LV.agg [LV.int IntKind.u8 (Chk.kind x), LV.int IntKind.u8 (Chk.flags x), LV.int IntKind.u32 (Chk.a x), LV.int IntKind.u32 (Chk.b x), LV.int IntKind.u16 (Chk.out x), LV.int IntKind.u16 (Chk.inn x), LV.int IntKind.u32 (Chk.ppid x), LV.raw (Chk.r7 x), LV.raw (Chk.r8 x), LV.raw (Chk.r9 x), LV.raw (Chk.r10 x), LV.raw (Value.slice (Chk.db x) (Chk.dn x) (Chk.dc x))]] })) (by kernel_rfl) ?_
  refine ⟨fun hlt => ?_, fun hge => leave_ok (fun _ => nofun) rfl fun w hs => ⟨true, rfl, fun _ => ⟨h80, fun c hc => ?_⟩, hs.right⟩⟩
  · have hlt' : i < n := by simp at hlt; omega
    have gx : cs[i]? = some x := hx ▸ getD_get (by omega)
    have s1 : base.isSome = true := hrd.isSome (rd_cell gx (j := 0) rfl)
    rw [show ((i : Nat) : Int).toNat = i by omega]
    refine ⟨⟨⟨by omega, by omega, s1⟩, trivial⟩, ⟨rd_row hrd gx _, trivial⟩, fun _ => ?_⟩
    refine Go.callT rfl rfl rfl rfl rfl rfl fun w' hs => ?_
    have hc := few1_spec x w' ((hok x (List.mem_of_getElem? gx)).sat hs)
    refine hc.mono fun e w'' ⟨r, he1, he2, he3⟩ => ⟨.bool r, 1, he1, rfl, he3, ?_⟩
    refine Go.run mixed 300 [] rfl ?_
    refine Ok.eq (r' := Res.ite (!r) (Res.leave Leave.ret { stk := [It.code [1, 1, 0, 1, 0, 0, 1, 0, 0, 1, 0, 1], It.blk 1, It.code [1, 1, 0, 1, 0, 0, 1, 1], It.lp [1, 1, 0, 1, 0, 0], It.blk 0, It.code [1, 1, 1]], fr := [(2, LV.cst (Value.bool false)), (3, LV.int IntKind.i64 (↑i : Int)), (0, LV.raw (Value.slice base n c))], H := [], nx := 0, orc := [] }) (Res.stop { stk := [It.lp [1, 1, 0, 1, 0, 0], It.blk 0, It.code [1, 1, 1]], fr := [(3, LV.int IntKind.i64 (IntKind.wrap IntKind.i64 ((↑i : Int) + (1 : Int)))), (2, LV.cst (Value.bool false)), (0, LV.raw (Value.slice base n c))], H := [], nx := 0, orc := [] })) (by kernel_rfl) ?_
    refine ⟨fun _ => leave_ok (fun _ => nofun) rfl fun w hs => ⟨false, rfl, nofun, hs.one⟩, fun hr => fun _ => ?_⟩
    have hr' : x.dn ≤ 2000 := he2 (by simpa using hr)
    have hrec := rec ⟨i + 1, hlt', fun k hk => by
      by_cases hki : k = i
      · subst hki; rw [← hx]; exact hr'
      · exact hbe k (by omega)⟩ (by show n - (i + 1) < n - i; omega)
    have hwr : IntKind.i64.wrap ((i : Int) + 1) = ((i + 1 : Nat) : Int) := by rw [IntWalk.i64_in _ (by omega)]; omega
    exact Go.again hrec (fun _ => rfl) fun w hs => ⟨⟨congrArg (Value.int .i64) hwr.symm, rfl, rfl, trivial⟩, rfl, hs.eq (by rw [one_mul])⟩
  · have : i = n := by simp at hge; omega
    obtain ⟨k, hk⟩ := List.mem_iff_getElem?.1 hc
    have hlt := (List.getElem?_eq_some_iff.1 hk).1
    have := hbe k (by omega)
    rwa [getD_of hk] at this

end Go.Proofs.Ytlgggljlegpaoaa
